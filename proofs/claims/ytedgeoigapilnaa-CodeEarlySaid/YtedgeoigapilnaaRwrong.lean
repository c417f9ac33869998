/- code: the reference's wrong by contract. -/
import Derived.Test.YtedgeoigapilnaaRfits
namespace Go.Proofs.Ytedgeoigapilnaa
open Go.RowKit

def pk (x : Nat × Nat × Nat) (j : Nat) : Nat := match j with | 0 => x.1 | 1 => x.2.1 | _ => x.2.2
def pv (x : In) (j : Nat) : Int := match j with | 0 => x.a | 1 => x.b | _ => x.c
theorem r3_at (x : Nat × Nat × Nat) (j : Nat) (h : j < 3) : (r3 x)[j]? = some (.int .i64 (refK (pk x j) : Int)) := by
  match j, h with
  | 0, _ => rfl
  | 1, _ => rfl
  | 2, _ => rfl
  | j + 3, h => omega
theorem pv_at (x : In) (j : Nat) (h : j < 3) : [Value.int .i64 x.a, .int .i64 x.b, .int .i64 x.c][j]? = some (.int .i64 (pv x j)) := by
  match j, h with
  | 0, _ => rfl
  | 1, _ => rfl
  | 2, _ => rfl
  | j + 3, h => omega
theorem pk_lt (k j : Nat) : pk (tabK.getD k (0, 0, 0)) j < 7 := by
  have := tabK_lt k
  unfold pk
  split <;> omega
theorem wrongI_part {g f s : Int} {x : In} (h0 : 0 ≤ x.op) (h17 : x.op ≤ 17) (j : Nat) (hj : j < 3) (h : ∀ i, i < j → fitB g f s (pk (tabK.getD x.op.toNat (0, 0, 0)) i) (pv x i) = true)
    (hb : fitB g f s (pk (tabK.getD x.op.toNat (0, 0, 0)) j) (pv x j) = false) : wrongI g f s x = j + 1 := by
  unfold wrongI
  rw [if_neg (by omega)]
  generalize tabK.getD x.op.toNat (0, 0, 0) = kk at h hb ⊢
  match j, hj with
  | 0, _ => simp only [pk, pv] at hb; simp [hb]
  | 1, _ => have a := h 0 (by omega); simp only [pk, pv] at a hb; simp [a, hb]
  | 2, _ => have a := h 0 (by omega); have b := h 1 (by omega); simp only [pk, pv] at a b hb; simp [a, b, hb]
  | j + 3, h => omega
theorem wrongI_none {g f s : Int} {x : In} (h0 : 0 ≤ x.op) (h17 : x.op ≤ 17) (h : ∀ i, i < 3 → fitB g f s (pk (tabK.getD x.op.toNat (0, 0, 0)) i) (pv x i) = true) : wrongI g f s x = -1 := by
  unfold wrongI
  rw [if_neg (by omega)]
  have a := h 0 (by omega); have b := h 1 (by omega); have c := h 2 (by omega)
  generalize tabK.getD x.op.toNat (0, 0, 0) = kk at a b c ⊢
  simp only [pk, pv] at a b c
  simp [a, b, c]

set_option maxHeartbeats 4000000 in
set_option maxRecDepth 100000 in
theorem rwrong_any (g f s : Int) (x : In) (w : World) :
    Calls Try.prog 22 #[.agg #[.int .i64 x.op, .int .i64 x.a, .int .i64 x.b, .int .i64 x.c], .int .i64 g, .int .i64 f, .int .i64 s] w fun e w' => e = .returned (.int .i64 (wrongI g f s x)) ∧ Turns (fun _ => False) w w' := by
  obtain ⟨w1, hw1⟩ : ∃ w1, w.alloc (.cells #[.int .i64 x.op, .int .i64 x.a, .int .i64 x.b, .int .i64 x.c] 37) = w1 := ⟨_, rfl⟩
  have R1 : Row w1 w.heap.size 37 (ic x) := by subst hw1; exact heap_new rfl
  have T1 : Turns (fun _ => False) w w1 := by subst hw1; exact (Turns.refl _ _).alloc _
  have C := kinds_any x.op w1
  have H1 := Lib.hid hw1
  have HT1 := Lib.hid T1
  clear hw1 T1
  by_cases hop : 0 ≤ x.op ∧ x.op ≤ 17
  · have HO := Lib.hid hop
    clear hop
    go_enter Try.func22, Try.ntmps22
    go_wp2_with fail
    rw [H1.out]
    clear H1
    refine C.mono ?_
    clear C
    rintro e w2 ⟨T2, h⟩
    rw [if_pos HO.out] at h
    obtain ⟨kb, rfl, RK⟩ := h
    have hq : ∀ w : World, (binOp .eql 42 (.slice (some ⟨kb, 0, none⟩) 3 3) (.slice none 0 0)).run Try.prog w = .ok (.bool false) w := fun w => Lib.run_eql_slice_nil w 42 3 _ 3 3 0 0 Try.underlying42
    have R2 := R1.later T2 (fun x => x)
    have c1 := R2.cell 1 _ rfl
    have c2 := R2.cell 2 _ rfl
    have c3 := R2.cell 3 _ rfl
    obtain ⟨w3, hw3⟩ : ∃ w3, w2.alloc (.cells #[.int .i64 x.a, .int .i64 x.b, .int .i64 x.c] 3) = w3 := ⟨_, rfl⟩
    have RN : Row w3 w2.heap.size 3 [.int .i64 x.a, .int .i64 x.b, .int .i64 x.c] := by subst hw3; exact heap_new rfl
    have RK3 : Row w3 kb 3 (r3 (tabK.getD x.op.toNat (0, 0, 0))) := by subst hw3; exact RK.alloc _
    have HT3 := Lib.hid (show Turns (fun _ => False) w w3 by subst hw3; exact (HT1.out.then T2).alloc _)
    have H3 := Lib.hid hw3
    have HRN := Lib.hid RN
    have HRK := Lib.hid RK3
    clear hw3 RN RK3 T2 R2 RK R1
    go_wp2_with fail
    rw [H3.out]
    clear H3 c1 c2 c3 hq
    go_loopw [11] (fun jv wr => ∃ j : Nat, j ≤ 3 ∧ jv = .int .i64 (j : Int) ∧ Hid (∀ i, i < j → fitB g f s (pk (tabK.getD x.op.toNat (0, 0, 0)) i) (pv x i) = true) ∧ Turns (fun _ => False) w3 wr)
      (fun jv _ => 3 - (intOf jv).toNat)
    case atStart => exact ⟨0, by omega, rfl, Lib.hid (by omega), Turns.refl _ _⟩
    case round =>
      obtain ⟨j, hj, rfl, hf, T⟩ := hrel
      by_cases hj3 : j < 3
      · have k0 := (HRK.out.later T (fun x => x)).cell j _ (r3_at _ j hj3)
        have n0 := (HRN.out.later T (fun x => x)).cell j _ (pv_at x j hj3)
        have C := fun w => rfits_any g f s (pk (tabK.getD x.op.toNat (0, 0, 0)) j) (pk_lt _ _) (pv x j) w
        have HT := Lib.hid T
        clear T
        have hstep : ∀ b, fitB g f s (pk (tabK.getD x.op.toNat (0, 0, 0)) j) (pv x j) = b → (b = false → wrongI g f s x = j + 1) ∧ (b = true → ∀ i, i < j + 1 → fitB g f s (pk (tabK.getD x.op.toNat (0, 0, 0)) i) (pv x i) = true) := by
          rintro b rfl
          refine ⟨fun hb => wrongI_part HO.out.1 HO.out.2 j hj3 hf.out hb, fun hb i hi => ?_⟩
          rcases Nat.lt_or_ge i j with h | h
          · exact hf.out i h
          · obtain rfl : i = j := by omega
            exact hb
        generalize fitB g f s (pk (tabK.getD x.op.toNat (0, 0, 0)) j) (pv x j) = fb at C hstep
        have HS := Lib.hid (hstep fb rfl)
        clear hstep hf
        generalize refK (pk (tabK.getD x.op.toNat (0, 0, 0)) j) = rk at k0 C
        generalize pv x j = xv at n0 C
        have i0 : (0 : Int) ≤ (j : Int) := by omega
        have i1 : (j : Int) < 3 := by omega
        go_wp2_with fail
        go_still_tail 11, (by kernel_rfl)
        change wpList _ _ _ _ _ wr.drew
        go_wp2_with fail
        refine (C _).mono ?_
        clear C k0 n0
        rintro e w5 ⟨rfl, T5⟩
        have HT5 := Lib.hid (HT.out.drew.then T5)
        clear T5
        cases fb with
        | false =>
          have HW := Lib.hid (HS.out.1 rfl)
          go_wp2_with fail
          go_ret
          exact ⟨ret_int HW.out.symm, HT3.out.then HT5.out⟩
        | true =>
          have HW := Lib.hid (HS.out.2 rfl)
          go_wp2_with fail
          go_roundw
          case rel => exact ⟨j + 1, by omega, by go_num, HW, HT5.out⟩
          case measure => simp [intOf]; omega
      · obtain rfl : j = 3 := by omega
        have HW := Lib.hid (wrongI_none HO.out.1 HO.out.2 hf.out)
        have HT := Lib.hid T
        clear T
        go_wp2_with fail
        go_ret
        exact ⟨ret_int HW.out.symm, HT3.out.then HT.out⟩
  · have HW := Lib.hid (show wrongI g f s x = 0 by unfold wrongI; rw [if_pos (by omega)])
    have HO := Lib.hid hop
    clear hop
    go_enter Try.func22, Try.ntmps22
    go_wp2_with fail
    rw [H1.out]
    clear H1
    refine C.mono ?_
    clear C
    rintro e w2 ⟨T2, h⟩
    rw [if_neg HO.out] at h
    subst h
    have hq : ∀ w : World, (binOp .eql 42 (.slice none 0 0) (.slice none 0 0)).run Try.prog w = .ok (.bool true) w := fun w => Lib.run_eql_slice_nil w 42 3 _ 0 0 0 0 Try.underlying42
    go_wp2_with fail
    go_ret
    exact ⟨ret_int HW.out.symm, HT1.out.then T2⟩
end Go.Proofs.Ytedgeoigapilnaa
