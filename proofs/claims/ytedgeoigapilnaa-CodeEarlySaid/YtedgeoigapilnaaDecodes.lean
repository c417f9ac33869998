/- code: the walk of CodeDecodes. -/
import Derived.Test.YtedgeoigapilnaaRdec
import Derived.Test.YtedgeoigapilnaaTold
import Derived.Test.YtedgeoigapilnaaSame
import Derived.Below
namespace Go.Proofs.Ytedgeoigapilnaa
open Go.RowKit

def sG (r : Except Nat Pr) : Int := match r with | .error _ => 0 | .ok p => p.g
def sF (r : Except Nat Pr) : List (List In) := match r with | .error _ => [] | .ok p => p.fs
def sE (r : Except Nat Pr) : Int := match r with | .error _ => 6 | .ok _ => 0
def sA (r : Except Nat Pr) : Int := match r with | .error i => (i : Int) | .ok _ => 0
/-- What Decode answers, in one form. -/
def DecSum (w : World) (r : Except Nat Pr) (e : Ending) (w' : World) : Prop :=
  ∃ ao cap, e = .returned (.tuple #[.agg #[.int .i64 (sG r), .slice ao (sF r).length cap], .int .i64 (sE r), .int .i64 (sA r)]) ∧ Funcs w' (.slice ao (sF r).length cap) (sF r) ∧ Turns (fun _ => False) w w'
theorem DecPost.sum {w : World} {r : Except Nat Pr} {e : Ending} {w' : World} (h : DecPost w r e w') : DecSum w r e w' := by
  obtain ⟨t, h⟩ := h
  cases r with
  | error i => exact ⟨none, 0, h, Funcs.nil _ _ _, t⟩
  | ok p =>
    obtain ⟨v, h1, h2⟩ := h
    obtain ⟨hm, ao, cap, rfl, hF⟩ := id h2
    exact ⟨ao, cap, h1, h2, t⟩
theorem below_of {w w' : World} (t : Turns (fun _ => False) w w') : Below w.heap.size w w' := t.toBelow (Nat.le_refl _) (fun _ _ h => h)

/-- Function F answers so at the bytes zs. -/
def Dec2 (F : FuncId) (zs : List Int) (g ev av : Int) (L : Nat) (fs : List (List In)) : Prop :=
  ∀ (w : World) (a : Option Addr) (n cap : Nat), IsBytes w a n zs → n ≤ 1000000 → Calls Try.prog F #[.slice a n cap] w fun e w' =>
    ∃ ao c, e = .returned (.tuple #[.agg #[.int .i64 g, .slice ao L c], .int .i64 ev, .int .i64 av]) ∧ Funcs w' (.slice ao L c) fs ∧ Turns (fun _ => False) w w'
theorem dec_two (zs : List Int) : ∃ (g ev av : Int) (L : Nat) (fs : List (List In)), Dec2 13 zs g ev av L fs ∧ Dec2 17 zs g ev av L fs :=
  ⟨_, _, _, _, _, fun w a n cap B hn => (decode_any a n cap zs w B hn).mono fun _ _ h => h.sum, fun w a n cap B hn => (rdecode_any a n cap zs w B hn).mono fun _ _ h => h.sum⟩

set_option maxHeartbeats 4000000 in
set_option maxRecDepth 100000 in
theorem decodes_walk {w : World} (a : Option Addr) (n cap : Nat) (zs : List Int) (B : IsBytes w a n zs) :
    Calls Try.prog 6 #[.slice a n cap] w fun e w' => e = .returned (.bool true) ∧ Below w.heap.size w w' := by
  by_cases h0 : (1000 : Int) < (n : Int)
  · have d0 : decide ((1000 : Int) < (n : Int)) = true := by simpa using h0
    clear h0
    go_enter Try.func6, Try.ntmps6
    go_wp2_with fail
    refine (told_any _).mono ?_
    rintro e w2 ⟨rfl, T2⟩
    go_wp2_with fail
    go_ret
    exact ⟨rfl, below_of T2⟩
  · have d0 : decide ((1000 : Int) < (n : Int)) = false := by simpa using h0
    have hn : n ≤ 1000000 := by omega
    have HB := Lib.hid B
    clear h0 B
    obtain ⟨g, ev, av, L, fs, D1, D2⟩ := dec_two zs
    have HD1 := Lib.hid D1
    have HD2 := Lib.hid D2
    clear D1 D2
    go_enter Try.func6, Try.ntmps6
    go_wp2_with fail
    refine (HD1.out w a n cap HB.out hn).mono ?_
    rintro e w2 ⟨ao, c, rfl, F2, T2⟩
    obtain ⟨w3, hw3⟩ : ∃ w3, w2.alloc (.cells #[.int .i64 g, .slice ao L c] 24) = w3 := ⟨_, rfl⟩
    have R3 : Row w3 w2.heap.size 24 [.int .i64 g, .slice ao L c] := by subst hw3; exact heap_new rfl
    have T3 : Turns (fun _ => False) w2 w3 := by subst hw3; exact (Turns.refl _ _).alloc _
    have H3 := Lib.hid hw3
    have HR3 := Lib.hid R3
    have HF3 := Lib.hid (F2.later T3)
    have HT3 := Lib.hid (T2.then T3)
    clear hw3 R3 T3 T2 F2
    go_wp2_with fail
    rw [H3.out]
    refine (HD2.out w3 a n cap (HB.out.later HT3.out (fun _ _ _ x => x)) hn).mono ?_
    rintro e w4 ⟨bo, c2, rfl, F4, T4⟩
    obtain ⟨w5, hw5⟩ : ∃ w5, w4.alloc (.cells #[.int .i64 g, .slice bo L c2] 24) = w5 := ⟨_, rfl⟩
    have R5 : Row w5 w4.heap.size 24 [.int .i64 g, .slice bo L c2] := by subst hw5; exact heap_new rfl
    have T5 : Turns (fun _ => False) w4 w5 := by subst hw5; exact (Turns.refl _ _).alloc _
    have H5 := Lib.hid hw5
    have HR5 := Lib.hid R5
    have HF5 := Lib.hid (F4.later T5)
    have HT5 := Lib.hid (T4.then T5)
    clear hw5 R5 T5 T4 F4 H3
    go_wp2_with fail
    rw [H5.out]
    refine (told_any _).mono ?_
    rintro e w6 ⟨rfl, T6⟩
    have T36 := HT5.out.then T6
    have a0 := (HR3.out.later T36 (fun x => x)).cell 0 _ rfl
    have a1 := (HR3.out.later T36 (fun x => x)).cell 1 _ rfl
    have b0 := (HR5.out.later T6 (fun x => x)).cell 0 _ rfl
    have b1 := (HR5.out.later T6 (fun x => x)).cell 1 _ rfl
    have C := same_any g fs _ _ w6 (HF3.out.later T36) (HF5.out.later T6)
    have HT := Lib.hid (HT3.out.then T36)
    clear T36 T6 H5
    go_wp2_with fail
    refine C.mono ?_
    rintro e w7 ⟨rfl, T7⟩
    go_wp2_with fail
    go_ret
    exact ⟨rfl, below_of (HT.out.then T7)⟩
end Go.Proofs.Ytedgeoigapilnaa
