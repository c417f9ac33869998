/- The reference's Go by contracts. -/
import Derived.Test.YtilcdoilmdcpbaaRef2
namespace Go.Proofs.Ytilcdoilmdcpbaa
open Go.RowKit

/-- A call of a method of the reference's. -/
def UniR (f : Nat) (args : Array Value) (w : World) (b g : Nat) (r : Int × S) : Prop :=
  Calls Try.prog f args w fun e w' => ∃ g', e = .returned (.int .i64 r.1) ∧ RfB w' b g' r.2 ∧ Turns (DB b g) w w' ∧ (g' = g ∨ w.heap.size ≤ g')

section
variable {w : World} {b g : Nat} {s : S}
theorem r_say (p : Int) (e f : Bool) (h : RfB w b g s) (hr : 0 ≤ s.rs ∧ s.rs ≤ 1000) : UniR 17 #[.pointer (some ⟨b, 0, none⟩), .int .i64 p, .bool e, .bool f] w b g (sayF s p e f) :=
  (rsay_any p e f h hr).mono fun _ _ ⟨h1, h2, h3⟩ => ⟨g, h1, h2, h3, Or.inl rfl⟩

theorem bits4 : bits BinOp.and IntKind.i64 4 3 = 0 := by kernel_rfl
theorem bits5 : bits BinOp.and IntKind.i64 5 3 = 1 := by kernel_rfl
theorem bits6 : bits BinOp.and IntKind.i64 6 3 = 2 := by kernel_rfl
theorem bits3 : bits BinOp.and IntKind.i64 3 3 = 3 := by kernel_rfl

theorem r_begin (h : RfB w b g s) (hc : 0 ≤ s.cy ∧ s.cy ≤ 1000) : UniR 15 #[.pointer (some ⟨b, 0, none⟩), .int .i64 1] w b g (beginF s) := by
  obtain ⟨i0, hi, hz0, hz1, hz2⟩ := info_parts Try.info4
  have hbits := bits4
  have c1 := h.c1
  unfold beginF
  by_cases hp : s.ph = 0
  · rw [if_pos hp]
    have h1 := h.setPh 1
    have h2 := h1.setCy (s.cy + 1)
    have c2 := h1.c2
    have f1 := h.row.free 1
    have f2 := h1.row.free 2
    have c0 := h2.c0
    have c0w := h.c0
    obtain ⟨w2, hw2⟩ : ∃ w2, (w.setCell ⟨b, 1, none⟩ (.int .i64 1)).setCell ⟨b, 2, none⟩ (.int .i64 (s.cy + 1)) = w2 := ⟨_, rfl⟩
    have T2 : Turns (DB b g) w w2 := by subst hw2; exact ((Turns.refl _ _).bb _ _).bb _ _
    rw [hw2] at c0 h2
    have H2 := Lib.hid h2
    have HW := Lib.hid hw2
    have z2 : w2.heap.size = w.heap.size := by subst hw2; simp [World.setCell]
    have hlen := h.len
    simp only at c0 c2
    rw [hp] at c1
    obtain ⟨n, hn⟩ : ∃ n, s.l.length = n := ⟨_, rfl⟩
    rw [hn] at c0 c0w hlen ⊢
    have HN := Lib.hid hn
    have Z2 := Lib.hid z2
    clear h h1 h2 hw2 hp hn z2
    go_enter Try.func15, Try.ntmps15
    go_wp2_with (at_make; refine wpList_make_full _ rfl (.tmp 41) (.tmp 41) 29 rfl w.heap.size 4 i0 (.bool false) 1 Try.underlying29 hi hz0 hz1 _ _ _ _ n rfl rfl rfl rfl ?b1 ?b2 ?b3 ?_)
    case b1 => omega
    case b2 => unfold maxLen; omega
    intro w3 hown hgr
    rw [HW.out] at hgr
    clear c1 c2 f1 f2 HW c0w
    have hb2 := H2.out.row.lt
    rw [Z2.out] at hb2
    have R := row_of_made hown
    have K : Turns (fun _ => False) w2 w3 := ⟨hgr.os, hgr.tape, hgr.output, hgr.size, fun k hk _ => hgr.block k hk (by simp)⟩
    have h3 := H2.out.later K (fun x => x) (fun x => x)
    have r4 := h3.row.set 4 (.slice (some ⟨w.heap.size, 0, none⟩) n n)
    have r3 := r4.set 3 (.int .i64 0)
    have q3 := (R.other 4 (.slice (some ⟨w.heap.size, 0, none⟩) n n) (show w.heap.size ≠ b by omega)).other 3 (.int .i64 0) (show w.heap.size ≠ b by omega)
    have f4 := h3.row.free 4
    have f3 := r4.free 3
    have d4 := h3.row.cell 4 _ rfl
    have d3 := r4.cell 3 _ rfl
    have FIN : Hid (RfB ((w3.setCell ⟨b, 4, none⟩ (.slice (some ⟨w.heap.size, 0, none⟩) n n)).setCell ⟨b, 3, none⟩ (.int .i64 0)) b w.heap.size ⟨1, s.cy + 1, List.replicate n false, 0⟩) :=
      ⟨by have := r3; simp only [HN.out] at this; simpa using this, q3, by simp only [ne_eq]; omega, by simpa using hlen⟩
    have TF := Lib.hid (((T2.then (K.mono (E := DB b g) fun _ x _ => x.elim)).bb 4 (.slice (some ⟨w.heap.size, 0, none⟩) n n)).bb 3 (.int .i64 0))
    clear hown hgr R K h3 r4 r3 q3 H2 T2 c0
    go_wp2
    go_ret
    exact ⟨rfl, w.heap.size, FIN.out, TF.out, Or.inr (Nat.le_refl _)⟩
  · rw [if_neg hp]
    have hne : (s.ph != 0) = true := by simpa using hp
    have H := Lib.hid h
    clear h hp
    go_enter Try.func15, Try.ntmps15
    go_wp2
    go_ret
    exact ⟨g, rfl, H.out, Turns.refl _ _, Or.inl rfl⟩

theorem r_sweep (h : RfB w b g s) : UniR 15 #[.pointer (some ⟨b, 0, none⟩), .int .i64 3] w b g (sweepF s) := by
  have hbits := bits6
  have c1 := h.c1
  have f1 := h.row.free 1
  unfold sweepF
  by_cases hp : s.ph = 2
  · rw [if_pos hp]
    rw [hp] at c1
    have H := Lib.hid (h.setPh 3)
    clear h hp
    go_enter Try.func15, Try.ntmps15
    go_wp2
    go_ret
    exact ⟨g, rfl, H.out, (Turns.refl _ _).bb _ _, Or.inl rfl⟩
  · rw [if_neg hp]
    have hne : (s.ph != 2) = true := by simpa using hp
    have H := Lib.hid h
    clear h hp
    go_enter Try.func15, Try.ntmps15
    go_wp2
    go_ret
    exact ⟨g, rfl, H.out, Turns.refl _ _, Or.inl rfl⟩

theorem r_end (h : RfB w b g s) : UniR 15 #[.pointer (some ⟨b, 0, none⟩), .int .i64 0] w b g (endF s) := by
  have hbits := bits3
  have c1 := h.c1
  have f1 := h.row.free 1
  unfold endF
  by_cases hp : s.ph = 3
  · rw [if_pos hp]
    rw [hp] at c1
    have H := Lib.hid (h.setPh 0)
    clear h hp
    go_enter Try.func15, Try.ntmps15
    go_wp2
    go_ret
    exact ⟨g, rfl, H.out, (Turns.refl _ _).bb _ _, Or.inl rfl⟩
  · rw [if_neg hp]
    have hne : (s.ph != 3) = true := by simpa using hp
    have H := Lib.hid h
    clear h hp
    go_enter Try.func15, Try.ntmps15
    go_wp2
    go_ret
    exact ⟨g, rfl, H.out, Turns.refl _ _, Or.inl rfl⟩

theorem r_term (h : RfB w b g s) : UniR 15 #[.pointer (some ⟨b, 0, none⟩), .int .i64 2] w b g (termF s) := by
  have hbits := bits5
  have c1 := h.c1
  have f1 := h.row.free 1
  have Q := rquiet_any h
  unfold termF
  by_cases hp : s.ph = 1
  · cases ha : allSaid s.l
    · rw [if_neg (by simp)]
      rw [ha] at Q
      simp only [Bool.and_false] at Q
      rw [hp] at c1
      have H := Lib.hid h
      clear h hp ha
      go_enter Try.func15, Try.ntmps15
      go_wp2_with fail
      refine Q.mono ?_
      rintro e w' ⟨rfl, rfl⟩
      go_wp2_with fail
      go_ret
      exact ⟨g, rfl, H.out, Turns.refl _ _, Or.inl rfl⟩
    · rw [if_pos ⟨hp, rfl⟩]
      rw [ha, hp] at Q
      simp only [decide_true, Bool.and_true] at Q
      rw [hp] at c1
      have H := Lib.hid (h.setPh 2)
      clear h hp ha
      go_enter Try.func15, Try.ntmps15
      go_wp2_with fail
      refine Q.mono ?_
      rintro e w' ⟨rfl, rfl⟩
      go_wp2_with fail
      go_ret
      exact ⟨g, rfl, H.out, (Turns.refl _ _).bb _ _, Or.inl rfl⟩
  · rw [if_neg (fun x => hp x.1)]
    have hne : (s.ph != 1) = true := by simpa using hp
    have H := Lib.hid h
    clear h hp Q
    go_enter Try.func15, Try.ntmps15
    go_wp2
    go_ret
    exact ⟨g, rfl, H.out, Turns.refl _ _, Or.inl rfl⟩
end
end Go.Proofs.Ytilcdoilmdcpbaa
