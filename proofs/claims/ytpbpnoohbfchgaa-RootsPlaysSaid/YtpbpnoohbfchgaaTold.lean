/- roots: the state of a play; told by contract. -/
import Derived.Test.YtpbpnoohbfchgaaAdd
namespace Go.Proofs.Ytpbpnoohbfchgaa
open Go.RowKit

/-- Since w the call has made a Roots at b, whose list v bears js; nothing of before is touched. -/
structure St (w w' : World) (b : Nat) (v : Value) (js : List J) : Prop where
  low : w.heap.size ≤ b
  rb : RB w' (b + 1) b v js
  turns : Turns (fun _ => False) w w'
theorem St.lt {w w' : World} {b : Nat} {v : Value} {js : List J} (h : St w w' b v js) : b < w'.heap.size := h.rb.row.lt
theorem St.alloc {w w' : World} {b : Nat} {v : Value} {js : List J} (h : St w w' b v js) (o : Obj) : St w (w'.alloc o) b v js :=
  ⟨h.low, h.rb.later ((Turns.refl (fun _ => False) _).alloc o) (fun x => x) (fun _ _ x => x), h.turns.alloc o⟩
theorem St.drew {w w' : World} {b : Nat} {v : Value} {js : List J} (h : St w w' b v js) : St w w'.drew b v js :=
  ⟨h.low, h.rb.later ((Turns.refl (fun _ => False) _).drew) (fun x => x) (fun _ _ x => x), h.turns.drew⟩
theorem St.then {w w' w'' : World} {b : Nat} {v : Value} {js : List J} (h : St w w' b v js) (t : Turns (fun _ => False) w' w'') : St w w'' b v js :=
  ⟨h.low, h.rb.later t (fun x => x) (fun _ _ x => x), h.turns.then t⟩
theorem St.left {w w' : World} {b : Nat} {v : Value} {js : List J} (h : St w w' b v js) : Calls Try.prog 7 #[.pointer (some ⟨b, 0, none⟩)] w' fun e w'' => e = .returned (.int .i64 (js.length : Int)) ∧ w' = w'' := left_any h.rb
theorem St.new {w w1 : World} (T : Turns (fun _ => False) w w1) (G : Int) (a : Option Addr) (n cap : Nat) (gs : List Int) (hG : G ≤ 1000) (hn : n ≤ 1000) (hi : IsInts w1 a n gs) :
    Calls Try.prog 6 #[.int .i64 G, .slice a n cap] w1 fun e w' => e = .returned (.pointer (some ⟨w1.heap.size, 0, none⟩)) ∧ ∃ v, St w w' w1.heap.size v (jobs G gs) := by
  refine (new_any G a n cap gs w1 hG hn hi).mono ?_
  rintro e w' ⟨rfl, ⟨v, R⟩, T'⟩
  exact ⟨rfl, v, T.size, R, T.then T'⟩
theorem St.next {w w' : World} {b : Nat} {v : Value} {j : J} {js : List J} (h : St w w' b v (j :: js)) : Calls Try.prog 8 #[.pointer (some ⟨b, 0, none⟩)] w' fun e w'' => e = .returned (.tuple #[.agg #[.int .i64 j.g, .int .i64 j.f, .int .i64 j.t], .bool true]) ∧ (∃ v', St w w'' b v' js ∧ v'.ownBlock = v.ownBlock) ∧ Turns (fun x => x = b) w' w'' := by
  refine (next_some h.rb h.lt).mono ?_
  rintro e w'' ⟨rfl, ⟨v', R, hv⟩, T⟩
  exact ⟨rfl, ⟨v', ⟨h.low, R, h.turns.trans T (fun _ x _ => x) (fun j x hj => absurd x (by have := h.low; omega))⟩, hv⟩, T⟩
theorem St.end {w w' : World} {b : Nat} {v : Value} (h : St w w' b v []) : Calls Try.prog 8 #[.pointer (some ⟨b, 0, none⟩)] w' fun e w'' => e = .returned (.tuple #[.agg #[.int .i64 0, .int .i64 0, .int .i64 0], .bool false]) ∧ St w w'' b v [] ∧ Turns (fun _ => False) w' w'' := by
  refine (next_empty h.rb).mono ?_
  rintro e w'' ⟨rfl, T⟩
  exact ⟨rfl, h.then T, T⟩
/-- What Add leaves. -/
def added (js : List J) (g : Int) : List J := if hasG js g then js else js ++ [st g]
theorem St.add {w w' : World} {b : Nat} {v : Value} {js : List J} (h : St w w' b v js) (g : Int) (hl : js.length ≤ 100000) : Calls Try.prog 11 #[.pointer (some ⟨b, 0, none⟩), .int .i64 g] w' fun e w'' => e = .returned (.tuple #[]) ∧ (∃ v', St w w'' b v' (added js g) ∧ Lies w' v v') ∧ Turns (fun x => x = b ∨ v.ownBlock = some x) w' w'' := by
  have hlow := h.rb.low
  have h0 := h.low
  cases hin : hasG js g with
  | true =>
    refine (add_in h.rb g h.lt hl hin).mono ?_
    rintro e w'' ⟨rfl, T⟩
    have e : added js g = js := by simp [added, hin]
    rw [e]
    exact ⟨rfl, ⟨v, h.then T, fun _ x => .inl x⟩, T.mono fun _ x _ => x.elim⟩
  | false =>
    refine (add_new h.rb g h.lt h.lt hl hin).mono ?_
    rintro e w'' ⟨rfl, ⟨v', R, hv⟩, T⟩
    have e : added js g = js ++ [st g] := by simp [added, hin]
    rw [e]
    exact ⟨rfl, ⟨v', ⟨h.low, R, h.turns.trans T (fun _ x _ => x) (fun j x hj => by rcases x with x | x; omega; have := hlow j x; omega)⟩, hv⟩, T⟩

theorem row_new (w : World) (t : TypeId) (xs : List Value) : Row (w.alloc (.cells xs.toArray t)) w.heap.size t xs := heap_new rfl

set_option maxHeartbeats 1000000 in
theorem told_any (w : World) : Calls Try.prog 9 #[] w fun e w' => e = .returned (.bool true) ∧ Turns (fun _ => False) w w' := by
  obtain ⟨w1, hw1⟩ : ∃ w1, w.alloc (.cells #[.int .i64 4] 3) = w1 := ⟨_, rfl⟩
  have I : IsInts w1 (some ⟨w.heap.size, 0, none⟩) 1 [4] := by
    subst hw1
    refine ⟨rfl, fun _ => ⟨_, _, rfl, by simp, fun j hj => ?_⟩⟩
    obtain rfl : j = 0 := by omega
    simp
  have T1 : Turns (fun _ => False) w w1 := by subst hw1; exact (Turns.refl _ _).alloc _
  have C := St.new T1 9 (some ⟨w.heap.size, 0, none⟩) 1 1 [4] (by omega) (by omega) I
  have hj : jobs 9 [4] = [⟨-1, 0, 8⟩, ⟨-1, 8, 9⟩, ⟨4, 0, 16⟩] := by rfl
  rw [hj] at C
  clear hj I T1
  have HW := Lib.hid hw1
  clear hw1
  go_enter Try.func9, Try.ntmps9
  go_wp2_with fail
  rw [HW.out]
  refine C.mono ?_
  clear C
  rintro e w2 ⟨rfl, v, S⟩
  have hb := S.lt
  generalize w1.heap.size = b at S hb
  go_wp2_with fail
  refine S.left.mono ?_
  rintro e w' ⟨rfl, rfl⟩
  go_wp2_with fail
  refine S.next.mono ?_
  rintro e w3 ⟨rfl, ⟨v3, S3, _⟩, _⟩
  have A := row_new w3 28 [.int .i64 (-1), .int .i64 0, .int .i64 8]
  have S4 := S3.alloc (.cells #[.int .i64 (-1), .int .i64 0, .int .i64 8] 28)
  have hab : w3.heap.size ≠ b := by have := S3.lt; omega
  go_wp2_with fail
  generalize w3.alloc _ = w4 at *
  generalize w3.heap.size = ba at *
  refine S4.next.mono ?_
  rintro e w5 ⟨rfl, ⟨v5, S5, _⟩, T5⟩
  have A5 := A.later T5 hab
  have A6 := A5.alloc (.cells #[.int .i64 (-1), .int .i64 8, .int .i64 9] 28)
  have B6 := row_new w5 28 [.int .i64 (-1), .int .i64 8, .int .i64 9]
  have S6 := S5.alloc (.cells #[.int .i64 (-1), .int .i64 8, .int .i64 9] 28)
  have hbb : w5.heap.size ≠ b := by have := S5.lt; omega
  clear S S3 S4 A T5 S5 A5
  go_wp2_with fail
  generalize w5.alloc _ = w6 at *
  generalize w5.heap.size = bb at *
  refine S6.next.mono ?_
  rintro e w7 ⟨rfl, ⟨v7, S7, _⟩, T7⟩
  have A8 := (A6.later T7 hab).alloc (.cells #[.int .i64 4, .int .i64 0, .int .i64 16] 28)
  have B8 := (B6.later T7 hbb).alloc (.cells #[.int .i64 4, .int .i64 0, .int .i64 16] 28)
  have C8 := row_new w7 28 [.int .i64 4, .int .i64 0, .int .i64 16]
  have S8 := S7.alloc (.cells #[.int .i64 4, .int .i64 0, .int .i64 16] 28)
  have hcb : w7.heap.size ≠ b := by have := S7.lt; omega
  clear A6 B6 S6 T7 S7
  go_wp2_with fail
  generalize w7.alloc _ = w8 at *
  generalize w7.heap.size = bc at *
  refine S8.end.mono ?_
  rintro e w9 ⟨rfl, S9, T9⟩
  have a0 := (A8.later T9 (fun x => x)).cell 0 _ rfl
  have a1 := (A8.later T9 (fun x => x)).cell 1 _ rfl
  have a2 := (A8.later T9 (fun x => x)).cell 2 _ rfl
  have b0 := (B8.later T9 (fun x => x)).cell 0 _ rfl
  have b1 := (B8.later T9 (fun x => x)).cell 1 _ rfl
  have b2 := (B8.later T9 (fun x => x)).cell 2 _ rfl
  have c0 := (C8.later T9 (fun x => x)).cell 0 _ rfl
  have c1 := (C8.later T9 (fun x => x)).cell 1 _ rfl
  have c2 := (C8.later T9 (fun x => x)).cell 2 _ rfl
  have la := (A8.later T9 (fun x => x)).lt
  have lb := (B8.later T9 (fun x => x)).lt
  have lc := (C8.later T9 (fun x => x)).lt
  have HT := Lib.hid (S9.turns.alloc (.cells #[.int .i64 0, .int .i64 0, .int .i64 0] 28))
  clear A8 B8 C8 S8 S9 T9
  go_wp2_with fail
  go_ret
  exact ⟨rfl, HT.out⟩
end Go.Proofs.Ytpbpnoohbfchgaa
