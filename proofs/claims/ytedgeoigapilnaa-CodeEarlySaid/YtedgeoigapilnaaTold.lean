/- code: told by contract: it is true. -/
import Derived.Test.YtedgeoigapilnaaEnc
import Derived.Test.YtedgeoigapilnaaDec
import Derived.Laws.BytesArg
namespace Go.Proofs.Ytedgeoigapilnaa
open Go.RowKit

theorem run_string {w : World} {a : Option Addr} {n : Nat} {zs : List Int} (h : IsBytes w a n zs) (cap : Nat) : (convert 27 9 (.slice a n cap)).run Try.prog w = .ok (.string (strOfNums zs)) w := by
  have hl := h.len
  cases n with
  | zero =>
    have : zs = [] := List.eq_nil_of_length_eq_zero hl
    subst this
    cases a with
    | none => exact run_convert_bytes_nil w 27 5 Try.underlying27 Try.underlying5 0 cap 9 Try.underlying9
    | some a =>
      rw [run_convert_bytes_string w 27 9 5 _ 0 cap Try.underlying27 Try.underlying5 Try.underlying9]
      exact run_bytesToString w a 0 cap [] (by simp [loadCells, loadCellsFrom])
  | succ n =>
    obtain ⟨b, off, rfl, _, _⟩ := h.at_ 0 (by omega)
    refine run_convert_bytes_arg w 27 5 Try.underlying27 Try.underlying5 b off (n + 1) cap zs hl (fun i hi => ?_) 9 Try.underlying9
    obtain ⟨b', off', e, _, hc⟩ := h.at_ i hi
    simp only [Option.some.injEq, Addr.mk.injEq] at e
    obtain ⟨rfl, rfl, _⟩ := e
    exact hc

theorem BV.isBytes {w : World} {B : Nat} {v : Value} {zs : List Int} (h : BV w B v zs) (hr : ∀ z ∈ zs, 0 ≤ z ∧ z < 256) : ∃ a cap, v = .slice a zs.length cap ∧ zs.length ≤ cap ∧ cap ≤ maxLen ∧ IsBytes w a zs.length zs ∧ ∀ b o, a = some ⟨b, o, none⟩ → B ≤ b := by
  by_cases h0 : 0 < zs.length
  · obtain ⟨g, o, cap, e, hB, hlt, hn, hm, _, hc⟩ := View.cells h h0
    refine ⟨_, cap, e, hn, hm, ⟨rfl, hr, fun j hj => ⟨g, o, rfl, hlt, hc j _ (bytes_at zs j hj)⟩⟩, fun b o e => by cases e; exact hB⟩
  · have : zs = [] := List.eq_nil_of_length_eq_zero (by omega)
    subst this
    rcases h.2.2 with ⟨ao, rfl, _, h⟩ | ⟨g, o, cap, cur, rfl, hB, hh, hn, hm, _⟩
    · exact ⟨ao, 0, rfl, by simp, by simp [maxLen], ⟨rfl, hr, fun j hj => by simp at hj⟩, fun b o e => (h _ e).1⟩
    · exact ⟨_, cap, rfl, by simp, hm, ⟨rfl, hr, fun j hj => by simp at hj⟩, fun b o e => by cases e; exact hB⟩

theorem encI_range {p : Pr} (h : Good p) : ∀ z ∈ encI p, 0 ≤ z ∧ z < 256 := by
  intro z hz
  have h1 := h.n16; have h2 := h.g0; have h3 := h.g32
  simp only [encI, List.mem_cons] at hz
  rcases hz with rfl | rfl | hz
  · omega
  · omega
  · obtain ⟨l, hl, hz⟩ := List.mem_flatMap.1 hz
    have := h.size l hl
    simp only [encL, List.mem_cons] at hz
    rcases hz with rfl | hz
    · omega
    · obtain ⟨x, hx, hz⟩ := List.mem_flatMap.1 hz
      exact h.bytes hl hx z hz
theorem row_isBytes {w : World} {b : Nat} {zs : List Int} (h : Row w b 5 (bytes zs)) (hr : ∀ z ∈ zs, 0 ≤ z ∧ z < 256) : IsBytes w (some ⟨b, 0, none⟩) zs.length zs :=
  ⟨rfl, hr, fun j hj => ⟨b, 0, rfl, h.lt, by rw [Nat.zero_add]; exact h.cell j _ (bytes_at zs j hj)⟩⟩

theorem told1 : decR [1, 0, 1, 0, 0, 0, 0] = .ok ⟨0, [[in0]]⟩ := by rfl
theorem told2 : decR [1, 0, 1, 14, 1, 0, 0] = .error 4 := by rfl
theorem told3 : mayI ⟨0, [[in0]]⟩ = 0 := by rfl
theorem told4 : mayI ⟨0, []⟩ = 1 := by rfl
theorem told5 : encI ⟨0, [[in0]]⟩ = [1, 0, 1, 0, 0, 0, 0] := by rfl

theorem dec_ok {a : Option Addr} {n cap : Nat} {zs : List Int} {w : World} (B : IsBytes w a n zs) (hn : n ≤ 1000000) {p : Pr} (h : decR zs = .ok p) :
    Calls Try.prog 13 #[.slice a n cap] w fun e w' => ∃ v, e = .returned (.tuple #[.agg #[.int .i64 p.g, v], .int .i64 0, .int .i64 0]) ∧ Funcs w' v p.fs ∧ Turns (fun _ => False) w w' :=
  (decode_any a n cap zs w B hn).mono fun e w' ⟨t, h'⟩ => by
    rw [h] at h'
    obtain ⟨v, h1, h2⟩ := h'
    exact ⟨v, h1, h2, t⟩
theorem dec_bad {a : Option Addr} {n cap : Nat} {zs : List Int} {w : World} (B : IsBytes w a n zs) (hn : n ≤ 1000000) {i : Nat} (h : decR zs = .error i) :
    Calls Try.prog 13 #[.slice a n cap] w fun e w' => e = .returned (.tuple #[.agg #[.int .i64 0, .slice none 0 0], .int .i64 6, .int .i64 (i : Int)]) ∧ Turns (fun _ => False) w w' :=
  (decode_any a n cap zs w B hn).mono fun e w' ⟨t, h'⟩ => by
    rw [h] at h'
    exact ⟨h', t⟩
theorem enc_ok {p : Pr} {v : Value} {w : World} (wg : (Lit.int .i64 p.g).wf = true) (F : Funcs w v p.fs) (h : mayI p = 0) :
    Calls Try.prog 11 #[.agg #[.int .i64 p.g, v]] w fun e w' => ∃ a cap, e = .returned (.tuple #[.slice a (encI p).length cap, .int .i64 0]) ∧ IsBytes w' a (encI p).length (encI p) ∧ (encI p).length ≤ cap ∧ cap ≤ maxLen ∧ (∀ b o, a = some ⟨b, o, none⟩ → w.heap.size ≤ b) ∧ Turns (fun _ => False) w w' :=
  (encode_any p v w wg F).mono fun e w' ⟨t, _, h'⟩ => by
    obtain ⟨v, h1, h2⟩ := h' h
    obtain ⟨a, cap, rfl, hc, hm, hb, hB⟩ := h2.isBytes (encI_range (mayI_good h))
    exact ⟨a, cap, h1, hb, hc, hm, hB, t⟩
theorem enc_bad {p : Pr} {v : Value} {w : World} (wg : (Lit.int .i64 p.g).wf = true) (F : Funcs w v p.fs) (h : mayI p ≠ 0) :
    Calls Try.prog 11 #[.agg #[.int .i64 p.g, v]] w fun e w' => e = .returned (.tuple #[.slice none 0 0, .int .i64 1]) ∧ Turns (fun _ => False) w w' :=
  (encode_any p v w wg F).mono fun _ _ ⟨t, h', _⟩ => ⟨h' h, t⟩

set_option maxHeartbeats 2000000 in
set_option maxRecDepth 100000 in
theorem told_any (w : World) : Calls Try.prog 10 #[] w fun e w' => e = .returned (.bool true) ∧ Turns (fun _ => False) w w' := by
  obtain ⟨w1, hw1⟩ : ∃ w1, w.alloc (.cells #[.int .u8 1, .int .u8 0, .int .u8 1, .int .u8 0, .int .u8 0, .int .u8 0, .int .u8 0] 5) = w1 := ⟨_, rfl⟩
  have X1 : Row w1 w.heap.size 5 (bytes [1, 0, 1, 0, 0, 0, 0]) := by subst hw1; exact heap_new rfl
  have T1 : Turns (fun _ => False) w w1 := by subst hw1; exact (Turns.refl _ _).alloc _
  have C := dec_ok (cap := 7) (row_isBytes X1 (by simp)) (by simp) told1
  have H1 := Lib.hid hw1
  have HT1 := Lib.hid T1
  clear hw1 T1 X1
  go_enter Try.func10, Try.ntmps10
  go_wp2_with fail
  rw [H1.out]
  refine C.mono ?_
  clear C
  rintro e w2 ⟨v, rfl, F2, T2⟩
  have F2' := F2
  obtain ⟨_, ao, vcap, rfl, hF⟩ := F2'
  obtain ⟨vb, vo, u, rfl, hu, hI⟩ := hF 0 [in0] rfl
  obtain ⟨_, ao', ucap, rfl, _⟩ := hI
  clear hF
  simp only [List.length_cons, List.length_nil, Nat.zero_add, Nat.add_zero] at F2 hu
  obtain ⟨w3, hw3⟩ : ∃ w3, (w2.alloc (.cells #[.int .i64 0, .slice (some ⟨vb, vo, none⟩) 1 vcap] 24)).alloc (.cells #[.int .u8 1, .int .u8 0, .int .u8 1, .int .u8 14, .int .u8 1, .int .u8 0, .int .u8 0] 5) = w3 := ⟨_, rfl⟩
  have X3 : Row w3 (w2.heap.size + 1) 5 (bytes [1, 0, 1, 14, 1, 0, 0]) := by subst hw3; exact heap_new (by simp)
  have Y3 : Row w3 w2.heap.size 24 [.int .i64 0, .slice (some ⟨vb, vo, none⟩) 1 vcap] := by subst hw3; exact Row.alloc (heap_new rfl) _
  have T3 : Turns (fun _ => False) w2 w3 := by subst hw3; exact ((Turns.refl _ _).alloc _).alloc _
  have C := dec_bad (cap := 7) (row_isBytes X3 (by simp)) (by simp) told2
  have H3 := Lib.hid hw3
  have HT3 := Lib.hid ((HT1.out.then T2).then T3)
  have F3 := F2.later T3
  have hu3 := T3.cell hu (fun x => x)
  have HF3 := Lib.hid F3
  have HY3 := Lib.hid Y3
  clear F2 T2 X3 Y3 T3 hw3 F3 H1 HT1 hu
  go_wp2_with fail
  rw [H3.out]
  refine C.mono ?_
  clear C
  rintro e w4 ⟨rfl, T4⟩
  obtain ⟨w5, hw5⟩ : ∃ w5, w4.alloc (.cells #[.int .i64 0, .slice none 0 0] 24) = w5 := ⟨_, rfl⟩
  have T5 : Turns (fun _ => False) w3 w5 := by subst hw5; exact T4.alloc _
  have y4 := (HY3.out.later T4 (fun x => x)).cell
  have y5 := HY3.out.later T5 (fun x => x)
  have H5 := Lib.hid hw5
  have a0 := y4 0 _ rfl
  have a1 := y4 1 _ rfl
  have b0 := y5.cell 0 _ rfl
  have b1 := y5.cell 1 _ rfl
  have hlt := (HY3.out.later T4 (fun x => x)).lt
  have C := enc_ok (p := ⟨0, [[in0]]⟩) (WalkArith.wf_i64 (by simp)) (HF3.out.later T5) told3
  rw [told5] at C
  have hu5 := T5.cell hu3 (fun x => x)
  have HF5 := Lib.hid (HF3.out.later T5)
  have HT5 := Lib.hid (HT3.out.then T5)
  clear T4 T5 hw5 y4 y5 HF3 HT3 HY3 H3 hu3
  go_wp2_with fail
  rw [H5.out]
  clear H5 a0 a1 hlt
  refine C.mono ?_
  clear C
  rintro e w6 ⟨a, cap, rfl, IB, _, _, _, T6⟩
  have hcv : (convert 27 9 (.slice a 7 cap)).run Try.prog w6 = .ok (.string ⟨#[1, 0, 1, 0, 0, 0, 0]⟩) w6 := run_string IB cap
  have c0 := T6.cell b0 (fun x => x)
  have c1 := T6.cell b1 (fun x => x)
  have cu := T6.cell hu5 (fun x => x)
  have C1 := may_any ⟨0, [[in0]]⟩ _ w6 (WalkArith.wf_i64 (by simp)) (HF5.out.later T6)
  rw [told3] at C1
  have HT6 := Lib.hid (HT5.out.then T6)
  clear b0 b1 hu5 HF5 HT5 T6 IB
  go_wp2_with fail
  refine C1.mono ?_
  clear C1
  rintro e w7 ⟨rfl, T7⟩
  have C2 := may_any ⟨0, []⟩ (.slice none 0 0) w7 (WalkArith.wf_i64 (by simp)) (Funcs.nil _ _ _)
  rw [told4] at C2
  go_wp2_with fail
  refine C2.mono ?_
  clear C2
  rintro e w8 ⟨rfl, T8⟩
  go_wp2_with fail
  go_ret
  exact ⟨rfl, (HT6.out.then T7).then T8⟩
end Go.Proofs.Ytedgeoigapilnaa
