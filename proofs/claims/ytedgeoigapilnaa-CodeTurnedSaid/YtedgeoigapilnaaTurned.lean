/- code: the walk of CodeTurned. -/
import Derived.Test.YtedgeoigapilnaaStrs
namespace Go.Proofs.Ytedgeoigapilnaa
open Go.RowKit
set_option linter.unusedSimpArgs false

/-- The reference's Encode, in one form: an error, or a string of 7 to 5000 bytes. -/
theorem renc_cases {p : Pr} {v : Value} {w0 : World} (wg : (Lit.int .i64 p.g).wf = true) (F : Funcs w0 v p.fs) :
    (∃ ev s, (ev != 0) = true ∧ ∀ w, Turns (fun _ => False) w0 w → Calls Try.prog 16 #[.agg #[.int .i64 p.g, v]] w fun e w' => e = .returned (.tuple #[.string s, .int .i64 ev]) ∧ Turns (fun _ => False) w w') ∨
    (∃ s : ByteArray, 7 ≤ s.size ∧ s.size ≤ 5000 ∧ ∀ w, Turns (fun _ => False) w0 w → Calls Try.prog 16 #[.agg #[.int .i64 p.g, v]] w fun e w' => e = .returned (.tuple #[.string s, .int .i64 0]) ∧ Turns (fun _ => False) w w') := by
  by_cases h : mayI p = 0
  · refine .inr ⟨strOfNums (encI p), by rw [strOfNums_size]; exact encI_ge (mayI_good h), by rw [strOfNums_size]; exact encI_le (mayI_good h), fun w t => renc_ok wg (F.later t) h⟩
  · exact .inl ⟨1, _, rfl, fun w t => renc_bad wg (F.later t) h⟩

set_option maxHeartbeats 4000000 in
set_option maxRecDepth 100000 in
theorem turned_walk {w : World} (v : Value) (p : Pr) (h : IsProg w v p) (at_ : Int) (_wa : (Lit.int .i64 at_).wf = true) (c : Int) (wc : (Lit.int .u8 c).wf = true) (how : Int) (_wh : (Lit.int .i64 how).wf = true) :
    Calls Try.prog 7 #[v, .int .i64 at_, .int .u8 c, .int .i64 how] w fun e w' => e = .returned (.bool true) ∧ Below w.heap.size w w' := by
  obtain ⟨fv, rfl, wg, F⟩ := h
  obtain ⟨w1, hw1⟩ : ∃ w1, w.alloc (.cells #[.int .i64 p.g, fv] 24) = w1 := ⟨_, rfl⟩
  have R1 : Row w1 w.heap.size 24 [.int .i64 p.g, fv] := by subst hw1; exact heap_new rfl
  have T1 : Turns (fun _ => False) w w1 := by subst hw1; exact (Turns.refl _ _).alloc _
  have F1 := F.later T1
  obtain ⟨hmax, ao, cap, hfv, _⟩ := F
  have hLL : p.fs.length = p.fs.length := rfl
  generalize p.fs.length = N at hfv
  subst hfv
  have E := renc_cases wg F1
  have HF := Lib.hid F1
  have HT1 := Lib.hid T1
  have HR1 := Lib.hid R1
  have H1 := Lib.hid hw1
  have HC := Lib.hid (u8_range wc)
  clear hw1 T1 R1 hmax hLL wg F1 wc
  generalize p.g = g at *
  go_enter Try.func7, Try.ntmps7
  go_wp2_with fail
  rw [H1.out]
  refine (great_any g p.fs _ _ HF.out).mono ?_
  rintro e w2 ⟨⟨b, rfl⟩, T2⟩
  cases b with
  | true =>
    go_wp2_with fail
    refine (told_any _).mono ?_
    rintro e w3 ⟨rfl, T3⟩
    go_wp2_with fail
    go_ret
    exact ⟨rfl, below_of ((HT1.out.then T2).then T3)⟩
  | false =>
    have c0 := (HR1.out.later T2 (fun x => x)).cell 0 _ rfl
    have c1 := (HR1.out.later T2 (fun x => x)).cell 1 _ rfl
    have HT2 := Lib.hid T2
    clear T2
    rcases E with ⟨ev, s, hev, E⟩ | ⟨s, s7, s5, E⟩
    · have HE := Lib.hid E
      clear E
      go_wp2_with fail
      refine (HE.out w2 HT2.out).mono ?_
      rintro e w3 ⟨rfl, T3⟩
      have HT3 := Lib.hid (HT2.out.then T3)
      clear T3 c0 c1
      go_wp2_with fail
      refine (told_any _).mono ?_
      rintro e w4 ⟨rfl, T4⟩
      have HT4 := Lib.hid (HT3.out.then T4)
      clear T4
      go_wp2_with fail
      go_ret
      exact ⟨rfl, below_of (HT1.out.then HT4.out)⟩
    · have HE := Lib.hid E
      clear E
      go_wp2_with fail
      refine (HE.out w2 HT2.out).mono ?_
      rintro e w3 ⟨rfl, T3⟩
      have HT3 := Lib.hid (HT2.out.then T3)
      clear T3 c0 c1
      obtain ⟨k, hk, hkk⟩ := rem_nat64 at_ s.size (by omega) s5
      have HKK := Lib.hid hkk
      clear hkk
      go_wp2_with fail
      rw [HKK.out]
      clear HKK
      have hkw : IntKind.i64.wrap ((k : Int) + 1) = (k : Int) + 1 := IntWalk.i64_in _ (by omega)
      have k0 : (0 : Int) ≤ (k : Int) := by omega
      have k1 : (k : Int) ≤ (s.size : Int) := by omega
      have k2 : (0 : Int) ≤ (k : Int) + 1 := by omega
      have k3 : (k : Int) + 1 ≤ (s.size : Int) := by omega
      have k4 : ((k : Int) + 1).toNat = k + 1 := by omega
      have k5 : k ≤ s.size := by omega
      have k6 : k + 1 ≤ s.size := by omega
      obtain ⟨m, hm, hmm⟩ := rem_nat how 5 (by omega) (by omega)
      have hmm : IntKind.i64.wrap ((IntKind.u64.wrap how).tmod 5) = (m : Int) := hmm
      obtain ⟨cs, hcs⟩ : ∃ cs, cs = strOfNums [c] := ⟨_, rfl⟩
      have hc1 : cs.size = 1 := by rw [hcs, strOfNums_size]; rfl
      have n1 : ¬ 9223372036854775807 < k + (s.size - (k + 1)) := by omega
      have n2 : ¬ 9223372036854775807 < k + cs.size := by omega
      have n3 : ¬ 9223372036854775807 < k + cs.size + (s.size - (k + 1)) := by omega
      have n4 : ¬ 9223372036854775807 < k + cs.size + (s.size - k) := by omega
      have n5 : ¬ 9223372036854775807 < s.size + cs.size := by omega
      have Hcs := Lib.hid hcs
      have Hc1 := Lib.hid hc1
      clear HR1 H1 HE HF hcs hc1
      refine wp_region_held_drew (S := (fun w' => Turns (fun _ => False) w3 w')) (by kernel_rfl) ?_ (fun hHeld => ?_)
      · exact (Turns.refl _ w3).drew
      refine wpAnyH_take (i := 0) (v := ?_) rfl (by kernel_rfl) (by kernel_rfl) (by kernel_rfl) (fun _ _ _ h => h) (Or.inl ⟨by rfl, ?_⟩) (by assumption) ?_
      rotate_left
      · (intro w' hSw; (try dsimp only at hSw); first | (go_simp; done) | (go_simp; with_reducible rfl))
      try simp only [Act.put, List.getElem_toArray, List.getElem_cons_zero, List.getElem_cons_succ, List.setIfInBounds_toArray, List.set_cons_zero, List.set_cons_succ]
      refine wpAnyH_take (i := 1) (v := ?_) rfl (by kernel_rfl) (by kernel_rfl) (by kernel_rfl) (fun _ _ _ h => h) (Or.inl ⟨by rfl, ?_⟩) (by assumption) ?_
      rotate_left
      · (intro w' hSw; (try dsimp only at hSw); first | (go_simp; done) | (go_simp; with_reducible rfl))
      try simp only [Act.put, List.getElem_toArray, List.getElem_cons_zero, List.getElem_cons_succ, List.setIfInBounds_toArray, List.set_cons_zero, List.set_cons_succ]
      refine wpAnyH_take (i := 2) (v := ?_) rfl (by kernel_rfl) (by kernel_rfl) (by kernel_rfl) (fun _ _ _ h => h) (Or.inl ⟨by rfl, ?_⟩) (by assumption) ?_
      rotate_left
      · (intro w' hSw; (try dsimp only at hSw); first | (go_simp; done) | (go_simp; with_reducible rfl))
      try simp only [Act.put, List.getElem_toArray, List.getElem_cons_zero, List.getElem_cons_succ, List.setIfInBounds_toArray, List.set_cons_zero, List.set_cons_succ]
      refine wpAnyH_take (i := 3) (v := ?_) rfl (by kernel_rfl) (by kernel_rfl) (by kernel_rfl) (fun _ _ _ h => h) (Or.inl ⟨by rfl, ?_⟩) (by assumption) ?_
      rotate_left
      · (intro w' hSw; (try dsimp only at hSw); first | (go_simp; done) | (go_simp; with_reducible rfl))
      try simp only [Act.put, List.getElem_toArray, List.getElem_cons_zero, List.getElem_cons_succ, List.setIfInBounds_toArray, List.set_cons_zero, List.set_cons_succ]
      refine wpAnyH_take (i := 7) (v := ?_) rfl (by kernel_rfl) (by kernel_rfl) (by kernel_rfl) (fun _ _ _ h => h) (Or.inl ⟨by rfl, ?_⟩) (by assumption) ?_
      rotate_left
      · (intro w' hSw; (try dsimp only at hSw); first | (go_simp; done) | (go_simp; with_reducible rfl))
      try simp only [Act.put, List.getElem_toArray, List.getElem_cons_zero, List.getElem_cons_succ, List.setIfInBounds_toArray, List.set_cons_zero, List.set_cons_succ]
      refine wpAnyH_take (i := 8) (v := ?_) rfl (by kernel_rfl) (by kernel_rfl) (by kernel_rfl) (fun _ _ _ h => h) (Or.inl ⟨by rfl, ?_⟩) (by assumption) ?_
      rotate_left
      · (intro w' hSw; (try dsimp only at hSw); first | (go_simp; done) | (go_simp; with_reducible rfl))
      try simp only [Act.put, List.getElem_toArray, List.getElem_cons_zero, List.getElem_cons_succ, List.setIfInBounds_toArray, List.set_cons_zero, List.set_cons_succ]
      refine wpAnyH_take (i := 9) (v := ?_) rfl (by kernel_rfl) (by kernel_rfl) (by kernel_rfl) (fun _ _ _ h => h) (Or.inl ⟨by rfl, ?_⟩) (by assumption) ?_
      rotate_left
      · (intro w' hSw; (try dsimp only at hSw); first | (go_simp; done) | (go_simp; with_reducible rfl))
      try simp only [Act.put, List.getElem_toArray, List.getElem_cons_zero, List.getElem_cons_succ, List.setIfInBounds_toArray, List.set_cons_zero, List.set_cons_succ]
      refine wpAnyH_take (i := 10) (v := ?_) rfl (by kernel_rfl) (by kernel_rfl) (by kernel_rfl) (fun _ _ _ h => h) (Or.inl ⟨by rfl, ?_⟩) (by assumption) ?_
      rotate_left
      · (intro w' hSw; (try dsimp only at hSw); first | (go_simp; done) | (go_simp; with_reducible rfl))
      try simp only [Act.put, List.getElem_toArray, List.getElem_cons_zero, List.getElem_cons_succ, List.setIfInBounds_toArray, List.set_cons_zero, List.set_cons_succ]
      refine wpAnyH_take (i := 12) (v := ?_) rfl (by kernel_rfl) (by kernel_rfl) (by kernel_rfl) (fun _ _ _ h => h) (Or.inl ⟨by rfl, ?_⟩) (by assumption) ?_
      rotate_left
      · (intro w' hSw; (try dsimp only at hSw); first | (go_simp; done) | (go_simp; with_reducible rfl))
      try simp only [Act.put, List.getElem_toArray, List.getElem_cons_zero, List.getElem_cons_succ, List.setIfInBounds_toArray, List.set_cons_zero, List.set_cons_succ]
      refine wpAnyH_take (i := 13) (v := ?_) rfl (by kernel_rfl) (by kernel_rfl) (by kernel_rfl) (fun _ _ _ h => h) (Or.inl ⟨by rfl, ?_⟩) (by assumption) ?_
      rotate_left
      · (intro w' hSw; (try dsimp only at hSw); first | (go_simp; done) | (go_simp; with_reducible rfl))
      try simp only [Act.put, List.getElem_toArray, List.getElem_cons_zero, List.getElem_cons_succ, List.setIfInBounds_toArray, List.set_cons_zero, List.set_cons_succ]
      refine wpAnyH_take (i := 14) (v := ?_) rfl (by kernel_rfl) (by kernel_rfl) (by kernel_rfl) (fun _ _ _ h => h) (Or.inl ⟨by rfl, ?_⟩) (by assumption) ?_
      rotate_left
      · (intro w' hSw; (try dsimp only at hSw); first | (go_simp; done) | (go_simp; with_reducible rfl))
      try simp only [Act.put, List.getElem_toArray, List.getElem_cons_zero, List.getElem_cons_succ, List.setIfInBounds_toArray, List.set_cons_zero, List.set_cons_succ]
      refine wpAnyH_take (i := 15) (v := ?_) rfl (by kernel_rfl) (by kernel_rfl) (by kernel_rfl) (fun _ _ _ h => h) (Or.inl ⟨by rfl, ?_⟩) (by assumption) ?_
      rotate_left
      · (intro w' hSw; (try dsimp only at hSw); first | (go_simp; done) | (go_simp; with_reducible rfl))
      try simp only [Act.put, List.getElem_toArray, List.getElem_cons_zero, List.getElem_cons_succ, List.setIfInBounds_toArray, List.set_cons_zero, List.set_cons_succ]
      refine wpAnyH_take (i := 16) (v := ?_) rfl (by kernel_rfl) (by kernel_rfl) (by kernel_rfl) (fun _ _ _ h => h) (Or.inl ⟨by rfl, ?_⟩) (by assumption) ?_
      rotate_left
      · (intro w' hSw; (try dsimp only at hSw); first | (go_simp; done) | (go_simp; with_reducible rfl))
      try simp only [Act.put, List.getElem_toArray, List.getElem_cons_zero, List.getElem_cons_succ, List.setIfInBounds_toArray, List.set_cons_zero, List.set_cons_succ]
      refine wpAnyH_take (i := 17) (v := ?_) rfl (by kernel_rfl) (by kernel_rfl) (by kernel_rfl) (fun _ _ _ h => h) (Or.inl ⟨by rfl, ?_⟩) (by assumption) ?_
      rotate_left
      · (intro w' hSw; (try dsimp only at hSw); first | (go_simp; done) | (go_simp; with_reducible rfl))
      try simp only [Act.put, List.getElem_toArray, List.getElem_cons_zero, List.getElem_cons_succ, List.setIfInBounds_toArray, List.set_cons_zero, List.set_cons_succ]
      refine wpAnyH_take (i := 18) (v := ?_) rfl (by kernel_rfl) (by kernel_rfl) (by kernel_rfl) (fun _ _ _ h => h) (Or.inl ⟨by rfl, ?_⟩) (by assumption) ?_
      rotate_left
      · (intro w' hSw; (try dsimp only at hSw); first | (go_simp; done) | (go_simp; with_reducible rfl))
      try simp only [Act.put, List.getElem_toArray, List.getElem_cons_zero, List.getElem_cons_succ, List.setIfInBounds_toArray, List.set_cons_zero, List.set_cons_succ]
      refine wpAnyH_take (i := 19) (v := ?_) rfl (by kernel_rfl) (by kernel_rfl) (by kernel_rfl) (fun _ _ _ h => h) (Or.inl ⟨by rfl, ?_⟩) (by assumption) ?_
      rotate_left
      · (intro w' hSw; (try dsimp only at hSw); first | (go_simp; done) | (go_simp; with_reducible rfl))
      try simp only [Act.put, List.getElem_toArray, List.getElem_cons_zero, List.getElem_cons_succ, List.setIfInBounds_toArray, List.set_cons_zero, List.set_cons_succ]
      refine wpAnyH_take (i := 20) (v := ?_) rfl (by kernel_rfl) (by kernel_rfl) (by kernel_rfl) (fun _ _ _ h => h) (Or.inl ⟨by rfl, ?_⟩) (by assumption) ?_
      rotate_left
      · (intro w' hSw; (try dsimp only at hSw); first | (go_simp; done) | (go_simp; with_reducible rfl))
      try simp only [Act.put, List.getElem_toArray, List.getElem_cons_zero, List.getElem_cons_succ, List.setIfInBounds_toArray, List.set_cons_zero, List.set_cons_succ]
      refine wpAnyH_take (i := 21) (v := ?_) rfl (by kernel_rfl) (by kernel_rfl) (by kernel_rfl) (fun _ _ _ h => h) (Or.inl ⟨by rfl, ?_⟩) (by assumption) ?_
      rotate_left
      · (intro w' hSw; (try dsimp only at hSw); first | (go_simp; done) | (go_simp; with_reducible rfl))
      try simp only [Act.put, List.getElem_toArray, List.getElem_cons_zero, List.getElem_cons_succ, List.setIfInBounds_toArray, List.set_cons_zero, List.set_cons_succ]
      refine wpAnyH_take (i := 22) (v := ?_) rfl (by kernel_rfl) (by kernel_rfl) (by kernel_rfl) (fun _ _ _ h => h) (Or.inl ⟨by rfl, ?_⟩) (by assumption) ?_
      rotate_left
      · (intro w' hSw; (try dsimp only at hSw); first | (go_simp; done) | (go_simp; with_reducible rfl))
      try simp only [Act.put, List.getElem_toArray, List.getElem_cons_zero, List.getElem_cons_succ, List.setIfInBounds_toArray, List.set_cons_zero, List.set_cons_succ]
      refine wpAnyH_take (i := 23) (v := ?_) rfl (by kernel_rfl) (by kernel_rfl) (by kernel_rfl) (fun _ _ _ h => h) (Or.inl ⟨by rfl, ?_⟩) (by assumption) ?_
      rotate_left
      · (intro w' hSw; (try dsimp only at hSw); first | (go_simp; done) | (go_simp; with_reducible rfl))
      try simp only [Act.put, List.getElem_toArray, List.getElem_cons_zero, List.getElem_cons_succ, List.setIfInBounds_toArray, List.set_cons_zero, List.set_cons_succ]
      refine wpAnyH_take (i := 27) (v := ?_) rfl (by kernel_rfl) (by kernel_rfl) (by kernel_rfl) (fun _ _ _ h => h) (Or.inl ⟨by rfl, ?_⟩) (by assumption) ?_
      rotate_left
      · (intro w' hSw; (try dsimp only at hSw); first | (go_simp; done) | (go_simp; with_reducible rfl))
      try simp only [Act.put, List.getElem_toArray, List.getElem_cons_zero, List.getElem_cons_succ, List.setIfInBounds_toArray, List.set_cons_zero, List.set_cons_succ]
      refine wpAnyH_take (i := 28) (v := ?_) rfl (by kernel_rfl) (by kernel_rfl) (by kernel_rfl) (fun _ _ _ h => h) (Or.inl ⟨by rfl, ?_⟩) (by assumption) ?_
      rotate_left
      · (intro w' hSw; (try dsimp only at hSw); first | (go_simp; done) | (go_simp; with_reducible rfl))
      try simp only [Act.put, List.getElem_toArray, List.getElem_cons_zero, List.getElem_cons_succ, List.setIfInBounds_toArray, List.set_cons_zero, List.set_cons_succ]
      refine wpAnyH_take (i := 29) (v := ?_) rfl (by kernel_rfl) (by kernel_rfl) (by kernel_rfl) (fun _ _ _ h => h) (Or.inl ⟨by rfl, ?_⟩) (by assumption) ?_
      rotate_left
      · (intro w' hSw; (try dsimp only at hSw); first | (go_simp; done) | (go_simp; with_reducible rfl))
      try simp only [Act.put, List.getElem_toArray, List.getElem_cons_zero, List.getElem_cons_succ, List.setIfInBounds_toArray, List.set_cons_zero, List.set_cons_succ]
      refine wpAnyH_take (i := 31) (v := ?_) rfl (by kernel_rfl) (by kernel_rfl) (by kernel_rfl) (fun _ _ _ h => h) (Or.inl ⟨by rfl, ?_⟩) (by assumption) ?_
      rotate_left
      · (intro w' hSw; (try dsimp only at hSw); first | (go_simp; done) | (go_simp; with_reducible rfl))
      try simp only [Act.put, List.getElem_toArray, List.getElem_cons_zero, List.getElem_cons_succ, List.setIfInBounds_toArray, List.set_cons_zero, List.set_cons_succ]
      refine wpAnyH_take (i := 32) (v := ?_) rfl (by kernel_rfl) (by kernel_rfl) (by kernel_rfl) (fun _ _ _ h => h) (Or.inl ⟨by rfl, ?_⟩) (by assumption) ?_
      rotate_left
      · (intro w' hSw; (try dsimp only at hSw); first | (go_simp; done) | (go_simp; with_reducible rfl))
      try simp only [Act.put, List.getElem_toArray, List.getElem_cons_zero, List.getElem_cons_succ, List.setIfInBounds_toArray, List.set_cons_zero, List.set_cons_succ]
      refine wpAnyH_take (i := 33) (v := ?_) rfl (by kernel_rfl) (by kernel_rfl) (by kernel_rfl) (fun _ _ _ h => h) (Or.inl ⟨by rfl, ?_⟩) (by assumption) ?_
      rotate_left
      · (intro w' hSw; (try dsimp only at hSw); first | (go_simp; done) | (go_simp; with_reducible rfl))
      try simp only [Act.put, List.getElem_toArray, List.getElem_cons_zero, List.getElem_cons_succ, List.setIfInBounds_toArray, List.set_cons_zero, List.set_cons_succ]
      refine wpAnyH_take (i := 34) (v := ?_) rfl (by kernel_rfl) (by kernel_rfl) (by kernel_rfl) (fun _ _ _ h => h) (Or.inl ⟨by rfl, ?_⟩) (by assumption) ?_
      rotate_left
      · (intro w' hSw; (try dsimp only at hSw); first | (go_simp; done) | (go_simp; with_reducible rfl))
      try simp only [Act.put, List.getElem_toArray, List.getElem_cons_zero, List.getElem_cons_succ, List.setIfInBounds_toArray, List.set_cons_zero, List.set_cons_succ]
      refine wpAnyH_take (i := 35) (v := ?_) rfl (by kernel_rfl) (by kernel_rfl) (by kernel_rfl) (fun _ _ _ h => h) (Or.inl ⟨by rfl, ?_⟩) (by assumption) ?_
      rotate_left
      · (intro w' hSw; (try dsimp only at hSw); first | (go_simp; done) | (go_simp; with_reducible rfl))
      try simp only [Act.put, List.getElem_toArray, List.getElem_cons_zero, List.getElem_cons_succ, List.setIfInBounds_toArray, List.set_cons_zero, List.set_cons_succ]
      refine wpAnyH_take (i := 40) (v := ?_) rfl (by kernel_rfl) (by kernel_rfl) (by kernel_rfl) (fun _ _ _ h => h) (Or.inl ⟨by rfl, ?_⟩) (by assumption) ?_
      rotate_left
      · (intro w' hSw; (try dsimp only at hSw); first | (go_simp; done) | (go_simp; with_reducible rfl))
      try simp only [Act.put, List.getElem_toArray, List.getElem_cons_zero, List.getElem_cons_succ, List.setIfInBounds_toArray, List.set_cons_zero, List.set_cons_succ]
      refine wpAnyH_take (i := 41) (v := ?_) rfl (by kernel_rfl) (by kernel_rfl) (by kernel_rfl) (fun _ _ _ h => h) (Or.inl ⟨by rfl, ?_⟩) (by assumption) ?_
      rotate_left
      · (intro w' hSw; (try dsimp only at hSw); first | (go_simp; done) | (go_simp; with_reducible rfl))
      try simp only [Act.put, List.getElem_toArray, List.getElem_cons_zero, List.getElem_cons_succ, List.setIfInBounds_toArray, List.set_cons_zero, List.set_cons_succ]
      refine wpAnyH_take (i := 42) (v := ?_) rfl (by kernel_rfl) (by kernel_rfl) (by kernel_rfl) (fun _ _ _ h => h) (Or.inl ⟨by rfl, ?_⟩) (by assumption) ?_
      rotate_left
      · (intro w' hSw; (try dsimp only at hSw); first | (go_simp; done) | (go_simp; with_reducible rfl))
      try simp only [Act.put, List.getElem_toArray, List.getElem_cons_zero, List.getElem_cons_succ, List.setIfInBounds_toArray, List.set_cons_zero, List.set_cons_succ]
      refine wpAnyH_take (i := 43) (v := ?_) rfl (by kernel_rfl) (by kernel_rfl) (by kernel_rfl) (fun _ _ _ h => h) (Or.inl ⟨by rfl, ?_⟩) (by assumption) ?_
      rotate_left
      · (intro w' hSw; (try dsimp only at hSw); first | (go_simp; done) | (go_simp; with_reducible rfl))
      try simp only [Act.put, List.getElem_toArray, List.getElem_cons_zero, List.getElem_cons_succ, List.setIfInBounds_toArray, List.set_cons_zero, List.set_cons_succ]
      refine wpAnyH_ready (rs := [4, 24, 36]) (by kernel_rfl) (by simp) ?_
      refine AllReadyH.cons rfl (fun K hK => ?_) (AllReadyH.cons rfl (fun K hK => ?_) (AllReadyH.cons rfl (fun K hK => ?_) AllReadyH.nil))
      · go_simp
        clear hHeld
        have RC : Row (w3.alloc (.cells #[.int .u8 c] 5)).drew w3.heap.size 5 (bytes [c]) := Row.drew (heap_new rfl)
        have TC : Turns (fun _ => False) w3 (w3.alloc (.cells #[.int .u8 c] 5)).drew := ((Turns.refl _ w3).alloc _).drew
        refine hK.out _ _ TC (fun hHeld => ?_)
        clear hK K hHeld
        try simp only [Act.put, List.getElem_toArray, List.getElem_cons_zero, List.getElem_cons_succ, List.setIfInBounds_toArray, List.set_cons_zero, List.set_cons_succ]
        generalize (w3.alloc (.cells #[.int .u8 c] 5)).drew = wc1 at RC TC ⊢
        generalize w3.heap.size = xb1 at RC ⊢
        have HCV1 : Hid (∀ w' : World, Turns (fun _ => False) wc1 w' → (convert 27 9 (.slice (some ⟨xb1, 0, none⟩) 1 1)).run Try.prog w' = .ok (.string cs) w') := Lib.hid (fun (w' : World) t => by rw [Hcs.out]; exact run_string (row_isBytes (RC.later t (fun x => x)) (by intro z hz; rw [List.mem_singleton.1 hz]; exact HC.out)) 1)
        have HTC1 := Lib.hid TC
        clear TC RC
        refine wpAnyH_less (S' := (fun w' => Turns (fun _ => False) wc1 w' ∧ (convert 27 9 (.slice (some ⟨xb1, 0, none⟩) 1 1)).run Try.prog w' = .ok (.string cs) w')) (fun _ h => HTC1.out.then h.1) _ _ _ _ ?_
        have hHeld : Turns (fun _ => False) wc1 wc1 ∧ (convert 27 9 (.slice (some ⟨xb1, 0, none⟩) 1 1)).run Try.prog wc1 = .ok (.string cs) wc1 := ⟨Turns.refl _ _, HCV1.out _ (Turns.refl _ _)⟩
        refine wpAnyH_take (i := 5) (v := ?_) rfl (by kernel_rfl) (by kernel_rfl) (by kernel_rfl) (fun _ _ _ h => h) (Or.inl ⟨by rfl, ?_⟩) (by assumption) ?_
        rotate_left
        · (intro w' hSw; (try dsimp only at hSw); first | (go_simp; done) | (go_simp; with_reducible rfl))
        try simp only [Act.put, List.getElem_toArray, List.getElem_cons_zero, List.getElem_cons_succ, List.setIfInBounds_toArray, List.set_cons_zero, List.set_cons_succ]
        refine wpAnyH_take (i := 6) (v := ?_) rfl (by kernel_rfl) (by kernel_rfl) (by kernel_rfl) (fun _ _ _ h => h) (Or.inl ⟨by rfl, ?_⟩) (by assumption) ?_
        rotate_left
        · (intro w' hSw; (try dsimp only at hSw); first | (go_simp; done) | (go_simp; with_reducible rfl))
        try simp only [Act.put, List.getElem_toArray, List.getElem_cons_zero, List.getElem_cons_succ, List.setIfInBounds_toArray, List.set_cons_zero, List.set_cons_succ]
        refine wpAnyH_take (i := 11) (v := ?_) rfl (by kernel_rfl) (by kernel_rfl) (by kernel_rfl) (fun _ _ _ h => h) (Or.inl ⟨by rfl, ?_⟩) (by assumption) ?_
        rotate_left
        · (intro w' hSw; (try dsimp only at hSw); first | (go_simp; done) | (go_simp; with_reducible rfl))
        try simp only [Act.put, List.getElem_toArray, List.getElem_cons_zero, List.getElem_cons_succ, List.setIfInBounds_toArray, List.set_cons_zero, List.set_cons_succ]
        refine wpAnyH_ready (rs := [24, 36]) (by kernel_rfl) (by simp) ?_
        refine AllReadyH.cons rfl (fun K hK => ?_) (AllReadyH.cons rfl (fun K hK => ?_) AllReadyH.nil)
        · go_simp
          clear hHeld
          have RC : Row (wc1.alloc (.cells #[.int .u8 c] 5)) wc1.heap.size 5 (bytes [c]) := heap_new rfl
          have TC : Turns (fun _ => False) w3 (wc1.alloc (.cells #[.int .u8 c] 5)) := HTC1.out.alloc _
          refine hK.out _ _ ⟨(Turns.refl _ wc1).alloc _, HCV1.out _ ((Turns.refl _ wc1).alloc _)⟩ (fun hHeld => ?_)
          clear hK K hHeld
          try simp only [Act.put, List.getElem_toArray, List.getElem_cons_zero, List.getElem_cons_succ, List.setIfInBounds_toArray, List.set_cons_zero, List.set_cons_succ]
          have TP : Turns (fun _ => False) wc1 (wc1.alloc (.cells #[.int .u8 c] 5)) := (Turns.refl _ wc1).alloc _
          generalize (wc1.alloc (.cells #[.int .u8 c] 5)) = wc2 at RC TC TP ⊢
          have HTP1 := Lib.hid TP
          clear TP
          generalize wc1.heap.size = xb2 at RC ⊢
          have HCV2 : Hid (∀ w' : World, Turns (fun _ => False) wc2 w' → (convert 27 9 (.slice (some ⟨xb2, 0, none⟩) 1 1)).run Try.prog w' = .ok (.string cs) w') := Lib.hid (fun (w' : World) t => by rw [Hcs.out]; exact run_string (row_isBytes (RC.later t (fun x => x)) (by intro z hz; rw [List.mem_singleton.1 hz]; exact HC.out)) 1)
          have HTC2 := Lib.hid TC
          clear TC RC
          refine wpAnyH_less (S' := (fun w' => Turns (fun _ => False) wc2 w' ∧ (convert 27 9 (.slice (some ⟨xb2, 0, none⟩) 1 1)).run Try.prog w' = .ok (.string cs) w')) (fun _ h => ⟨HTP1.out.then h.1, HCV1.out _ (HTP1.out.then h.1)⟩) _ _ _ _ ?_
          have hHeld : Turns (fun _ => False) wc2 wc2 ∧ (convert 27 9 (.slice (some ⟨xb2, 0, none⟩) 1 1)).run Try.prog wc2 = .ok (.string cs) wc2 := ⟨Turns.refl _ _, HCV2.out _ (Turns.refl _ _)⟩
          refine wpAnyH_take (i := 25) (v := ?_) rfl (by kernel_rfl) (by kernel_rfl) (by kernel_rfl) (fun _ _ _ h => h) (Or.inl ⟨by rfl, ?_⟩) (by assumption) ?_
          rotate_left
          · (intro w' hSw; (try dsimp only at hSw); first | (go_simp; done) | (go_simp; with_reducible rfl))
          try simp only [Act.put, List.getElem_toArray, List.getElem_cons_zero, List.getElem_cons_succ, List.setIfInBounds_toArray, List.set_cons_zero, List.set_cons_succ]
          refine wpAnyH_take (i := 26) (v := ?_) rfl (by kernel_rfl) (by kernel_rfl) (by kernel_rfl) (fun _ _ _ h => h) (Or.inl ⟨by rfl, ?_⟩) (by assumption) ?_
          rotate_left
          · (intro w' hSw; (try dsimp only at hSw); first | (go_simp; done) | (go_simp; with_reducible rfl))
          try simp only [Act.put, List.getElem_toArray, List.getElem_cons_zero, List.getElem_cons_succ, List.setIfInBounds_toArray, List.set_cons_zero, List.set_cons_succ]
          refine wpAnyH_take (i := 30) (v := ?_) rfl (by kernel_rfl) (by kernel_rfl) (by kernel_rfl) (fun _ _ _ h => h) (Or.inl ⟨by rfl, ?_⟩) (by assumption) ?_
          rotate_left
          · (intro w' hSw; (try dsimp only at hSw); first | (go_simp; done) | (go_simp; with_reducible rfl))
          try simp only [Act.put, List.getElem_toArray, List.getElem_cons_zero, List.getElem_cons_succ, List.setIfInBounds_toArray, List.set_cons_zero, List.set_cons_succ]
          refine wpAnyH_ready (rs := [36]) (by kernel_rfl) (by simp) ?_
          refine AllReadyH.cons rfl (fun K hK => ?_) AllReadyH.nil
          · go_simp
            clear hHeld
            have RC : Row (wc2.alloc (.cells #[.int .u8 c] 5)) wc2.heap.size 5 (bytes [c]) := heap_new rfl
            have TC : Turns (fun _ => False) w3 (wc2.alloc (.cells #[.int .u8 c] 5)) := HTC2.out.alloc _
            refine hK.out _ _ ⟨(Turns.refl _ wc2).alloc _, HCV2.out _ ((Turns.refl _ wc2).alloc _)⟩ (fun hHeld => ?_)
            clear hK K hHeld
            try simp only [Act.put, List.getElem_toArray, List.getElem_cons_zero, List.getElem_cons_succ, List.setIfInBounds_toArray, List.set_cons_zero, List.set_cons_succ]
            have TP : Turns (fun _ => False) wc2 (wc2.alloc (.cells #[.int .u8 c] 5)) := (Turns.refl _ wc2).alloc _
            generalize (wc2.alloc (.cells #[.int .u8 c] 5)) = wc3 at RC TC TP ⊢
            have HTP2 := Lib.hid TP
            clear TP
            generalize wc2.heap.size = xb3 at RC ⊢
            have HCV3 : Hid (∀ w' : World, Turns (fun _ => False) wc3 w' → (convert 27 9 (.slice (some ⟨xb3, 0, none⟩) 1 1)).run Try.prog w' = .ok (.string cs) w') := Lib.hid (fun (w' : World) t => by rw [Hcs.out]; exact run_string (row_isBytes (RC.later t (fun x => x)) (by intro z hz; rw [List.mem_singleton.1 hz]; exact HC.out)) 1)
            have HTC3 := Lib.hid TC
            clear TC RC
            refine wpAnyH_less (S' := (fun w' => Turns (fun _ => False) wc3 w' ∧ (convert 27 9 (.slice (some ⟨xb3, 0, none⟩) 1 1)).run Try.prog w' = .ok (.string cs) w')) (fun _ h => ⟨HTP2.out.then h.1, HCV2.out _ (HTP2.out.then h.1)⟩) _ _ _ _ ?_
            have hHeld : Turns (fun _ => False) wc3 wc3 ∧ (convert 27 9 (.slice (some ⟨xb3, 0, none⟩) 1 1)).run Try.prog wc3 = .ok (.string cs) wc3 := ⟨Turns.refl _ _, HCV3.out _ (Turns.refl _ _)⟩
            refine wpAnyH_take (i := 37) (v := ?_) rfl (by kernel_rfl) (by kernel_rfl) (by kernel_rfl) (fun _ _ _ h => h) (Or.inl ⟨by rfl, ?_⟩) (by assumption) ?_
            rotate_left
            · (intro w' hSw; (try dsimp only at hSw); first | (go_simp; done) | (go_simp; with_reducible rfl))
            try simp only [Act.put, List.getElem_toArray, List.getElem_cons_zero, List.getElem_cons_succ, List.setIfInBounds_toArray, List.set_cons_zero, List.set_cons_succ]
            refine wpAnyH_take (i := 38) (v := ?_) rfl (by kernel_rfl) (by kernel_rfl) (by kernel_rfl) (fun _ _ _ h => h) (Or.inl ⟨by rfl, ?_⟩) (by assumption) ?_
            rotate_left
            · (intro w' hSw; (try dsimp only at hSw); first | (go_simp; done) | (go_simp; with_reducible rfl))
            try simp only [Act.put, List.getElem_toArray, List.getElem_cons_zero, List.getElem_cons_succ, List.setIfInBounds_toArray, List.set_cons_zero, List.set_cons_succ]
            have hz0 : (s.extract 0 k ++ cs ++ s.extract (k + 1) s.size).size ≤ 6000 := by have := Hc1.out; simp only [ByteArray.size_append, ByteArray.size_extract]; omega
            have hz1 : (s.extract 0 k ++ s.extract (k + 1) s.size).size ≤ 6000 := by simp only [ByteArray.size_append, ByteArray.size_extract]; omega
            have hz2 : (s.extract 0 k ++ cs ++ s.extract k s.size).size ≤ 6000 := by have := Hc1.out; simp only [ByteArray.size_append, ByteArray.size_extract]; omega
            have hz3 : (s.extract 0 k).size ≤ 6000 := by simp only [ByteArray.size_extract]; omega
            have hz4 : (s ++ cs).size ≤ 6000 := by have := Hc1.out; simp only [ByteArray.size_append]; omega
            generalize s.extract 0 k ++ cs ++ s.extract (k + 1) s.size = x0 at hz0 ⊢
            generalize s.extract 0 k ++ s.extract (k + 1) s.size = x1 at hz1 ⊢
            generalize s.extract 0 k ++ cs ++ s.extract k s.size = x2 at hz2 ⊢
            generalize s ++ cs = x4 at hz4 ⊢
            have RS : Row (wc3.alloc (.cells #[.string x0, .string x1, .string x2, .string (s.extract 0 k), .string x4] 9)) wc3.heap.size 9 [.string x0, .string x1, .string x2, .string (s.extract 0 k), .string x4] := heap_new rfl
            have hcell : ∃ t : ByteArray, (wc3.alloc (.cells #[.string x0, .string x1, .string x2, .string (s.extract 0 k), .string x4] 9)).cell? ⟨wc3.heap.size, m, none⟩ = some (.string t) ∧ t.size ≤ 6000 := by
              rcases (by omega : m = 0 ∨ m = 1 ∨ m = 2 ∨ m = 3 ∨ m = 4) with rfl | rfl | rfl | rfl | rfl
              · exact ⟨_, RS.cell _ _ rfl, hz0⟩
              · exact ⟨_, RS.cell _ _ rfl, hz1⟩
              · exact ⟨_, RS.cell _ _ rfl, hz2⟩
              · exact ⟨_, RS.cell _ _ rfl, hz3⟩
              · exact ⟨_, RS.cell _ _ rfl, hz4⟩
            obtain ⟨t, hcell, ht⟩ := hcell
            have TP3 : Turns (fun _ => False) wc3 (wc3.alloc (.cells #[.string x0, .string x1, .string x2, .string (s.extract 0 k), .string x4] 9)) := (Turns.refl _ _).alloc _
            refine wpAnyH_ready (rs := [39]) (by kernel_rfl) (by simp) ?_
            refine AllReadyH.cons rfl (fun K hK => ?_) AllReadyH.nil
            have Hcell := Lib.hid hcell
            clear hcell hz0 hz1 hz2 hz3 hz4 hHeld
            go_simp
            refine hK.out _ _ ⟨TP3, HCV3.out _ TP3⟩ (fun hHeld => ?_)
            clear hK K
            try simp only [Act.put, List.getElem_toArray, List.getElem_cons_zero, List.getElem_cons_succ, List.setIfInBounds_toArray, List.set_cons_zero, List.set_cons_succ]
            have i0 : (0 : Int) ≤ (m : Int) := by omega
            have i1 : (m : Int) < 5 := by omega
            refine wpAnyH_take (i := 44) (v := ?_) rfl (by kernel_rfl) (by kernel_rfl) (by kernel_rfl) (fun _ _ _ h => h) (Or.inl ⟨by rfl, ?_⟩) (by assumption) ?_
            rotate_left
            · (intro w' hSw; (try dsimp only at hSw); first | (go_simp; done) | (go_simp; with_reducible rfl))
            try simp only [Act.put, List.getElem_toArray, List.getElem_cons_zero, List.getElem_cons_succ, List.setIfInBounds_toArray, List.set_cons_zero, List.set_cons_succ]
            have hcell := Hcell.out
            refine wpAnyH_ready (rs := [45]) (by kernel_rfl) (by simp) ?_
            refine AllReadyH.cons rfl (fun K hK => ?_) AllReadyH.nil
            clear hHeld
            go_simp
            refine hK.out _ _ ⟨TP3, HCV3.out _ TP3⟩ (fun hHeld => ?_)
            clear hK K hHeld
            try simp only [Act.put, List.getElem_toArray, List.getElem_cons_zero, List.getElem_cons_succ, List.setIfInBounds_toArray, List.set_cons_zero, List.set_cons_succ]
            refine wpAnyH_ready (rs := [46]) (by kernel_rfl) (by simp) ?_
            refine AllReadyH.cons rfl (fun K hK => ?_) AllReadyH.nil
            go_simp
            refine hK.out _ _ ⟨TP3, HCV3.out _ TP3⟩ (fun hHeld => ?_)
            clear hK K hHeld
            try simp only [Act.put, List.getElem_toArray, List.getElem_cons_zero, List.getElem_cons_succ, List.setIfInBounds_toArray, List.set_cons_zero, List.set_cons_succ]
            refine wpAnyH_done (by kernel_rfl) ?_ _
            have HTF := Lib.hid (HTC3.out.then TP3)
            clear TP3 RS hcell Hcell i0 i1
            generalize wc3.alloc (.cells #[.string x0, .string x1, .string x2, .string (s.extract 0 k), .string x4] 9) = wf at HTF ⊢
            clear n1 n2 n3 n4 n5 hkw k0 k1 k2 k3 k4 k5 k6 hmm hm
            obtain ⟨gq, ev, av, LL, fs, D1, D2⟩ := dec_two (nums t)
            have HD1 := Lib.hid D1
            have HD2 := Lib.hid D2
            obtain ⟨a5, c5, w5, hcv, IB5, T5⟩ := bytes_of t wf
            have HIB5 := Lib.hid IB5
            have HT5 := Lib.hid (HTF.out.then T5)
            clear D1 D2 IB5 T5
            go_wp2_with fail
            refine (HD1.out w5 _ _ _ HIB5.out (by omega)).mono ?_
            rintro e w6 ⟨ao6, c6, rfl, F6, T6⟩
            clear hcv
            obtain ⟨w7, hw7⟩ : ∃ w7, w6.alloc (.cells #[.int .i64 gq, .slice ao6 LL c6] 24) = w7 := ⟨_, rfl⟩
            have R7 : Row w7 w6.heap.size 24 [.int .i64 gq, .slice ao6 LL c6] := by subst hw7; exact heap_new rfl
            have T7 : Turns (fun _ => False) w6 w7 := by subst hw7; exact (Turns.refl _ _).alloc _
            have HR7 := Lib.hid R7
            have HF7 := Lib.hid (F6.later T7)
            have HT7 := Lib.hid ((HT5.out.then T6).then T7)
            obtain ⟨a8, c8, w8, hcv, IB8, T8⟩ := bytes_of t w7
            have HIB8 := Lib.hid IB8
            have HT8 := Lib.hid T8
            have H7 := Lib.hid hw7
            clear T6 F6 R7 T7 IB8 T8
            subst hw7
            go_wp2_with fail
            refine (HD2.out w8 _ _ _ HIB8.out (by omega)).mono ?_
            rintro e w9 ⟨ao9, c9, rfl, F9, T9⟩
            clear hcv
            obtain ⟨w10, hw10⟩ : ∃ w10, w9.alloc (.cells #[.int .i64 gq, .slice ao9 LL c9] 24) = w10 := ⟨_, rfl⟩
            have R10 : Row w10 w9.heap.size 24 [.int .i64 gq, .slice ao9 LL c9] := by subst hw10; exact heap_new rfl
            have T10 : Turns (fun _ => False) w9 w10 := by subst hw10; exact (Turns.refl _ _).alloc _
            have HR10 := Lib.hid R10
            have HF10 := Lib.hid (F9.later T10)
            have HT10 := Lib.hid ((HT8.out.then T9).then T10)
            have H10 := Lib.hid hw10
            clear T9 F9 R10 T10 hw10
            go_wp2_with fail
            rw [H10.out]
            refine (told_any _).mono ?_
            rintro e w11 ⟨rfl, T11⟩
            have TT := HT10.out.then T11
            have a0 := (HR7.out.later TT (fun x => x)).cell 0 _ rfl
            have a1 := (HR7.out.later TT (fun x => x)).cell 1 _ rfl
            have b0 := (HR10.out.later T11 (fun x => x)).cell 0 _ rfl
            have b1 := (HR10.out.later T11 (fun x => x)).cell 1 _ rfl
            have CS := same_any gq fs _ _ w11 (HF7.out.later TT) (HF10.out.later T11)
            have HTT := Lib.hid (HT7.out.then TT)
            clear TT T11
            go_wp2_with fail
            refine CS.mono ?_
            rintro e w12 ⟨rfl, T12⟩
            go_wp2_with fail
            go_ret
            exact ⟨rfl, below_of ((HT1.out.then HT3.out).then (HTT.out.then T12))⟩
        · go_simp
          clear hHeld
          have RC : Row (wc1.alloc (.cells #[.int .u8 c] 5)) wc1.heap.size 5 (bytes [c]) := heap_new rfl
          have TC : Turns (fun _ => False) w3 (wc1.alloc (.cells #[.int .u8 c] 5)) := HTC1.out.alloc _
          refine hK.out _ _ ⟨(Turns.refl _ wc1).alloc _, HCV1.out _ ((Turns.refl _ wc1).alloc _)⟩ (fun hHeld => ?_)
          clear hK K hHeld
          try simp only [Act.put, List.getElem_toArray, List.getElem_cons_zero, List.getElem_cons_succ, List.setIfInBounds_toArray, List.set_cons_zero, List.set_cons_succ]
          have TP : Turns (fun _ => False) wc1 (wc1.alloc (.cells #[.int .u8 c] 5)) := (Turns.refl _ wc1).alloc _
          generalize (wc1.alloc (.cells #[.int .u8 c] 5)) = wc2 at RC TC TP ⊢
          have HTP1 := Lib.hid TP
          clear TP
          generalize wc1.heap.size = xb2 at RC ⊢
          have HCV2 : Hid (∀ w' : World, Turns (fun _ => False) wc2 w' → (convert 27 9 (.slice (some ⟨xb2, 0, none⟩) 1 1)).run Try.prog w' = .ok (.string cs) w') := Lib.hid (fun (w' : World) t => by rw [Hcs.out]; exact run_string (row_isBytes (RC.later t (fun x => x)) (by intro z hz; rw [List.mem_singleton.1 hz]; exact HC.out)) 1)
          have HTC2 := Lib.hid TC
          clear TC RC
          refine wpAnyH_less (S' := (fun w' => Turns (fun _ => False) wc2 w' ∧ (convert 27 9 (.slice (some ⟨xb2, 0, none⟩) 1 1)).run Try.prog w' = .ok (.string cs) w')) (fun _ h => ⟨HTP1.out.then h.1, HCV1.out _ (HTP1.out.then h.1)⟩) _ _ _ _ ?_
          have hHeld : Turns (fun _ => False) wc2 wc2 ∧ (convert 27 9 (.slice (some ⟨xb2, 0, none⟩) 1 1)).run Try.prog wc2 = .ok (.string cs) wc2 := ⟨Turns.refl _ _, HCV2.out _ (Turns.refl _ _)⟩
          refine wpAnyH_take (i := 37) (v := ?_) rfl (by kernel_rfl) (by kernel_rfl) (by kernel_rfl) (fun _ _ _ h => h) (Or.inl ⟨by rfl, ?_⟩) (by assumption) ?_
          rotate_left
          · (intro w' hSw; (try dsimp only at hSw); first | (go_simp; done) | (go_simp; with_reducible rfl))
          try simp only [Act.put, List.getElem_toArray, List.getElem_cons_zero, List.getElem_cons_succ, List.setIfInBounds_toArray, List.set_cons_zero, List.set_cons_succ]
          refine wpAnyH_take (i := 38) (v := ?_) rfl (by kernel_rfl) (by kernel_rfl) (by kernel_rfl) (fun _ _ _ h => h) (Or.inl ⟨by rfl, ?_⟩) (by assumption) ?_
          rotate_left
          · (intro w' hSw; (try dsimp only at hSw); first | (go_simp; done) | (go_simp; with_reducible rfl))
          try simp only [Act.put, List.getElem_toArray, List.getElem_cons_zero, List.getElem_cons_succ, List.setIfInBounds_toArray, List.set_cons_zero, List.set_cons_succ]
          refine wpAnyH_ready (rs := [24]) (by kernel_rfl) (by simp) ?_
          refine AllReadyH.cons rfl (fun K hK => ?_) AllReadyH.nil
          · go_simp
            clear hHeld
            have RC : Row (wc2.alloc (.cells #[.int .u8 c] 5)) wc2.heap.size 5 (bytes [c]) := heap_new rfl
            have TC : Turns (fun _ => False) w3 (wc2.alloc (.cells #[.int .u8 c] 5)) := HTC2.out.alloc _
            refine hK.out _ _ ⟨(Turns.refl _ wc2).alloc _, HCV2.out _ ((Turns.refl _ wc2).alloc _)⟩ (fun hHeld => ?_)
            clear hK K hHeld
            try simp only [Act.put, List.getElem_toArray, List.getElem_cons_zero, List.getElem_cons_succ, List.setIfInBounds_toArray, List.set_cons_zero, List.set_cons_succ]
            have TP : Turns (fun _ => False) wc2 (wc2.alloc (.cells #[.int .u8 c] 5)) := (Turns.refl _ wc2).alloc _
            generalize (wc2.alloc (.cells #[.int .u8 c] 5)) = wc3 at RC TC TP ⊢
            have HTP2 := Lib.hid TP
            clear TP
            generalize wc2.heap.size = xb3 at RC ⊢
            have HCV3 : Hid (∀ w' : World, Turns (fun _ => False) wc3 w' → (convert 27 9 (.slice (some ⟨xb3, 0, none⟩) 1 1)).run Try.prog w' = .ok (.string cs) w') := Lib.hid (fun (w' : World) t => by rw [Hcs.out]; exact run_string (row_isBytes (RC.later t (fun x => x)) (by intro z hz; rw [List.mem_singleton.1 hz]; exact HC.out)) 1)
            have HTC3 := Lib.hid TC
            clear TC RC
            refine wpAnyH_less (S' := (fun w' => Turns (fun _ => False) wc3 w' ∧ (convert 27 9 (.slice (some ⟨xb3, 0, none⟩) 1 1)).run Try.prog w' = .ok (.string cs) w')) (fun _ h => ⟨HTP2.out.then h.1, HCV2.out _ (HTP2.out.then h.1)⟩) _ _ _ _ ?_
            have hHeld : Turns (fun _ => False) wc3 wc3 ∧ (convert 27 9 (.slice (some ⟨xb3, 0, none⟩) 1 1)).run Try.prog wc3 = .ok (.string cs) wc3 := ⟨Turns.refl _ _, HCV3.out _ (Turns.refl _ _)⟩
            refine wpAnyH_take (i := 25) (v := ?_) rfl (by kernel_rfl) (by kernel_rfl) (by kernel_rfl) (fun _ _ _ h => h) (Or.inl ⟨by rfl, ?_⟩) (by assumption) ?_
            rotate_left
            · (intro w' hSw; (try dsimp only at hSw); first | (go_simp; done) | (go_simp; with_reducible rfl))
            try simp only [Act.put, List.getElem_toArray, List.getElem_cons_zero, List.getElem_cons_succ, List.setIfInBounds_toArray, List.set_cons_zero, List.set_cons_succ]
            refine wpAnyH_take (i := 26) (v := ?_) rfl (by kernel_rfl) (by kernel_rfl) (by kernel_rfl) (fun _ _ _ h => h) (Or.inl ⟨by rfl, ?_⟩) (by assumption) ?_
            rotate_left
            · (intro w' hSw; (try dsimp only at hSw); first | (go_simp; done) | (go_simp; with_reducible rfl))
            try simp only [Act.put, List.getElem_toArray, List.getElem_cons_zero, List.getElem_cons_succ, List.setIfInBounds_toArray, List.set_cons_zero, List.set_cons_succ]
            refine wpAnyH_take (i := 30) (v := ?_) rfl (by kernel_rfl) (by kernel_rfl) (by kernel_rfl) (fun _ _ _ h => h) (Or.inl ⟨by rfl, ?_⟩) (by assumption) ?_
            rotate_left
            · (intro w' hSw; (try dsimp only at hSw); first | (go_simp; done) | (go_simp; with_reducible rfl))
            try simp only [Act.put, List.getElem_toArray, List.getElem_cons_zero, List.getElem_cons_succ, List.setIfInBounds_toArray, List.set_cons_zero, List.set_cons_succ]
            have hz0 : (s.extract 0 k ++ cs ++ s.extract (k + 1) s.size).size ≤ 6000 := by have := Hc1.out; simp only [ByteArray.size_append, ByteArray.size_extract]; omega
            have hz1 : (s.extract 0 k ++ s.extract (k + 1) s.size).size ≤ 6000 := by simp only [ByteArray.size_append, ByteArray.size_extract]; omega
            have hz2 : (s.extract 0 k ++ cs ++ s.extract k s.size).size ≤ 6000 := by have := Hc1.out; simp only [ByteArray.size_append, ByteArray.size_extract]; omega
            have hz3 : (s.extract 0 k).size ≤ 6000 := by simp only [ByteArray.size_extract]; omega
            have hz4 : (s ++ cs).size ≤ 6000 := by have := Hc1.out; simp only [ByteArray.size_append]; omega
            generalize s.extract 0 k ++ cs ++ s.extract (k + 1) s.size = x0 at hz0 ⊢
            generalize s.extract 0 k ++ s.extract (k + 1) s.size = x1 at hz1 ⊢
            generalize s.extract 0 k ++ cs ++ s.extract k s.size = x2 at hz2 ⊢
            generalize s ++ cs = x4 at hz4 ⊢
            have RS : Row (wc3.alloc (.cells #[.string x0, .string x1, .string x2, .string (s.extract 0 k), .string x4] 9)) wc3.heap.size 9 [.string x0, .string x1, .string x2, .string (s.extract 0 k), .string x4] := heap_new rfl
            have hcell : ∃ t : ByteArray, (wc3.alloc (.cells #[.string x0, .string x1, .string x2, .string (s.extract 0 k), .string x4] 9)).cell? ⟨wc3.heap.size, m, none⟩ = some (.string t) ∧ t.size ≤ 6000 := by
              rcases (by omega : m = 0 ∨ m = 1 ∨ m = 2 ∨ m = 3 ∨ m = 4) with rfl | rfl | rfl | rfl | rfl
              · exact ⟨_, RS.cell _ _ rfl, hz0⟩
              · exact ⟨_, RS.cell _ _ rfl, hz1⟩
              · exact ⟨_, RS.cell _ _ rfl, hz2⟩
              · exact ⟨_, RS.cell _ _ rfl, hz3⟩
              · exact ⟨_, RS.cell _ _ rfl, hz4⟩
            obtain ⟨t, hcell, ht⟩ := hcell
            have TP3 : Turns (fun _ => False) wc3 (wc3.alloc (.cells #[.string x0, .string x1, .string x2, .string (s.extract 0 k), .string x4] 9)) := (Turns.refl _ _).alloc _
            refine wpAnyH_ready (rs := [39]) (by kernel_rfl) (by simp) ?_
            refine AllReadyH.cons rfl (fun K hK => ?_) AllReadyH.nil
            have Hcell := Lib.hid hcell
            clear hcell hz0 hz1 hz2 hz3 hz4 hHeld
            go_simp
            refine hK.out _ _ ⟨TP3, HCV3.out _ TP3⟩ (fun hHeld => ?_)
            clear hK K
            try simp only [Act.put, List.getElem_toArray, List.getElem_cons_zero, List.getElem_cons_succ, List.setIfInBounds_toArray, List.set_cons_zero, List.set_cons_succ]
            have i0 : (0 : Int) ≤ (m : Int) := by omega
            have i1 : (m : Int) < 5 := by omega
            refine wpAnyH_take (i := 44) (v := ?_) rfl (by kernel_rfl) (by kernel_rfl) (by kernel_rfl) (fun _ _ _ h => h) (Or.inl ⟨by rfl, ?_⟩) (by assumption) ?_
            rotate_left
            · (intro w' hSw; (try dsimp only at hSw); first | (go_simp; done) | (go_simp; with_reducible rfl))
            try simp only [Act.put, List.getElem_toArray, List.getElem_cons_zero, List.getElem_cons_succ, List.setIfInBounds_toArray, List.set_cons_zero, List.set_cons_succ]
            have hcell := Hcell.out
            refine wpAnyH_ready (rs := [45]) (by kernel_rfl) (by simp) ?_
            refine AllReadyH.cons rfl (fun K hK => ?_) AllReadyH.nil
            clear hHeld
            go_simp
            refine hK.out _ _ ⟨TP3, HCV3.out _ TP3⟩ (fun hHeld => ?_)
            clear hK K hHeld
            try simp only [Act.put, List.getElem_toArray, List.getElem_cons_zero, List.getElem_cons_succ, List.setIfInBounds_toArray, List.set_cons_zero, List.set_cons_succ]
            refine wpAnyH_ready (rs := [46]) (by kernel_rfl) (by simp) ?_
            refine AllReadyH.cons rfl (fun K hK => ?_) AllReadyH.nil
            go_simp
            refine hK.out _ _ ⟨TP3, HCV3.out _ TP3⟩ (fun hHeld => ?_)
            clear hK K hHeld
            try simp only [Act.put, List.getElem_toArray, List.getElem_cons_zero, List.getElem_cons_succ, List.setIfInBounds_toArray, List.set_cons_zero, List.set_cons_succ]
            refine wpAnyH_done (by kernel_rfl) ?_ _
            have HTF := Lib.hid (HTC3.out.then TP3)
            clear TP3 RS hcell Hcell i0 i1
            generalize wc3.alloc (.cells #[.string x0, .string x1, .string x2, .string (s.extract 0 k), .string x4] 9) = wf at HTF ⊢
            clear n1 n2 n3 n4 n5 hkw k0 k1 k2 k3 k4 k5 k6 hmm hm
            obtain ⟨gq, ev, av, LL, fs, D1, D2⟩ := dec_two (nums t)
            have HD1 := Lib.hid D1
            have HD2 := Lib.hid D2
            obtain ⟨a5, c5, w5, hcv, IB5, T5⟩ := bytes_of t wf
            have HIB5 := Lib.hid IB5
            have HT5 := Lib.hid (HTF.out.then T5)
            clear D1 D2 IB5 T5
            go_wp2_with fail
            refine (HD1.out w5 _ _ _ HIB5.out (by omega)).mono ?_
            rintro e w6 ⟨ao6, c6, rfl, F6, T6⟩
            clear hcv
            obtain ⟨w7, hw7⟩ : ∃ w7, w6.alloc (.cells #[.int .i64 gq, .slice ao6 LL c6] 24) = w7 := ⟨_, rfl⟩
            have R7 : Row w7 w6.heap.size 24 [.int .i64 gq, .slice ao6 LL c6] := by subst hw7; exact heap_new rfl
            have T7 : Turns (fun _ => False) w6 w7 := by subst hw7; exact (Turns.refl _ _).alloc _
            have HR7 := Lib.hid R7
            have HF7 := Lib.hid (F6.later T7)
            have HT7 := Lib.hid ((HT5.out.then T6).then T7)
            obtain ⟨a8, c8, w8, hcv, IB8, T8⟩ := bytes_of t w7
            have HIB8 := Lib.hid IB8
            have HT8 := Lib.hid T8
            have H7 := Lib.hid hw7
            clear T6 F6 R7 T7 IB8 T8
            subst hw7
            go_wp2_with fail
            refine (HD2.out w8 _ _ _ HIB8.out (by omega)).mono ?_
            rintro e w9 ⟨ao9, c9, rfl, F9, T9⟩
            clear hcv
            obtain ⟨w10, hw10⟩ : ∃ w10, w9.alloc (.cells #[.int .i64 gq, .slice ao9 LL c9] 24) = w10 := ⟨_, rfl⟩
            have R10 : Row w10 w9.heap.size 24 [.int .i64 gq, .slice ao9 LL c9] := by subst hw10; exact heap_new rfl
            have T10 : Turns (fun _ => False) w9 w10 := by subst hw10; exact (Turns.refl _ _).alloc _
            have HR10 := Lib.hid R10
            have HF10 := Lib.hid (F9.later T10)
            have HT10 := Lib.hid ((HT8.out.then T9).then T10)
            have H10 := Lib.hid hw10
            clear T9 F9 R10 T10 hw10
            go_wp2_with fail
            rw [H10.out]
            refine (told_any _).mono ?_
            rintro e w11 ⟨rfl, T11⟩
            have TT := HT10.out.then T11
            have a0 := (HR7.out.later TT (fun x => x)).cell 0 _ rfl
            have a1 := (HR7.out.later TT (fun x => x)).cell 1 _ rfl
            have b0 := (HR10.out.later T11 (fun x => x)).cell 0 _ rfl
            have b1 := (HR10.out.later T11 (fun x => x)).cell 1 _ rfl
            have CS := same_any gq fs _ _ w11 (HF7.out.later TT) (HF10.out.later T11)
            have HTT := Lib.hid (HT7.out.then TT)
            clear TT T11
            go_wp2_with fail
            refine CS.mono ?_
            rintro e w12 ⟨rfl, T12⟩
            go_wp2_with fail
            go_ret
            exact ⟨rfl, below_of ((HT1.out.then HT3.out).then (HTT.out.then T12))⟩
      · go_simp
        clear hHeld
        have RC : Row (w3.alloc (.cells #[.int .u8 c] 5)).drew w3.heap.size 5 (bytes [c]) := Row.drew (heap_new rfl)
        have TC : Turns (fun _ => False) w3 (w3.alloc (.cells #[.int .u8 c] 5)).drew := ((Turns.refl _ w3).alloc _).drew
        refine hK.out _ _ TC (fun hHeld => ?_)
        clear hK K hHeld
        try simp only [Act.put, List.getElem_toArray, List.getElem_cons_zero, List.getElem_cons_succ, List.setIfInBounds_toArray, List.set_cons_zero, List.set_cons_succ]
        generalize (w3.alloc (.cells #[.int .u8 c] 5)).drew = wc1 at RC TC ⊢
        generalize w3.heap.size = xb1 at RC ⊢
        have HCV1 : Hid (∀ w' : World, Turns (fun _ => False) wc1 w' → (convert 27 9 (.slice (some ⟨xb1, 0, none⟩) 1 1)).run Try.prog w' = .ok (.string cs) w') := Lib.hid (fun (w' : World) t => by rw [Hcs.out]; exact run_string (row_isBytes (RC.later t (fun x => x)) (by intro z hz; rw [List.mem_singleton.1 hz]; exact HC.out)) 1)
        have HTC1 := Lib.hid TC
        clear TC RC
        refine wpAnyH_less (S' := (fun w' => Turns (fun _ => False) wc1 w' ∧ (convert 27 9 (.slice (some ⟨xb1, 0, none⟩) 1 1)).run Try.prog w' = .ok (.string cs) w')) (fun _ h => HTC1.out.then h.1) _ _ _ _ ?_
        have hHeld : Turns (fun _ => False) wc1 wc1 ∧ (convert 27 9 (.slice (some ⟨xb1, 0, none⟩) 1 1)).run Try.prog wc1 = .ok (.string cs) wc1 := ⟨Turns.refl _ _, HCV1.out _ (Turns.refl _ _)⟩
        refine wpAnyH_take (i := 25) (v := ?_) rfl (by kernel_rfl) (by kernel_rfl) (by kernel_rfl) (fun _ _ _ h => h) (Or.inl ⟨by rfl, ?_⟩) (by assumption) ?_
        rotate_left
        · (intro w' hSw; (try dsimp only at hSw); first | (go_simp; done) | (go_simp; with_reducible rfl))
        try simp only [Act.put, List.getElem_toArray, List.getElem_cons_zero, List.getElem_cons_succ, List.setIfInBounds_toArray, List.set_cons_zero, List.set_cons_succ]
        refine wpAnyH_take (i := 26) (v := ?_) rfl (by kernel_rfl) (by kernel_rfl) (by kernel_rfl) (fun _ _ _ h => h) (Or.inl ⟨by rfl, ?_⟩) (by assumption) ?_
        rotate_left
        · (intro w' hSw; (try dsimp only at hSw); first | (go_simp; done) | (go_simp; with_reducible rfl))
        try simp only [Act.put, List.getElem_toArray, List.getElem_cons_zero, List.getElem_cons_succ, List.setIfInBounds_toArray, List.set_cons_zero, List.set_cons_succ]
        refine wpAnyH_take (i := 30) (v := ?_) rfl (by kernel_rfl) (by kernel_rfl) (by kernel_rfl) (fun _ _ _ h => h) (Or.inl ⟨by rfl, ?_⟩) (by assumption) ?_
        rotate_left
        · (intro w' hSw; (try dsimp only at hSw); first | (go_simp; done) | (go_simp; with_reducible rfl))
        try simp only [Act.put, List.getElem_toArray, List.getElem_cons_zero, List.getElem_cons_succ, List.setIfInBounds_toArray, List.set_cons_zero, List.set_cons_succ]
        refine wpAnyH_ready (rs := [4, 36]) (by kernel_rfl) (by simp) ?_
        refine AllReadyH.cons rfl (fun K hK => ?_) (AllReadyH.cons rfl (fun K hK => ?_) AllReadyH.nil)
        · go_simp
          clear hHeld
          have RC : Row (wc1.alloc (.cells #[.int .u8 c] 5)) wc1.heap.size 5 (bytes [c]) := heap_new rfl
          have TC : Turns (fun _ => False) w3 (wc1.alloc (.cells #[.int .u8 c] 5)) := HTC1.out.alloc _
          refine hK.out _ _ ⟨(Turns.refl _ wc1).alloc _, HCV1.out _ ((Turns.refl _ wc1).alloc _)⟩ (fun hHeld => ?_)
          clear hK K hHeld
          try simp only [Act.put, List.getElem_toArray, List.getElem_cons_zero, List.getElem_cons_succ, List.setIfInBounds_toArray, List.set_cons_zero, List.set_cons_succ]
          have TP : Turns (fun _ => False) wc1 (wc1.alloc (.cells #[.int .u8 c] 5)) := (Turns.refl _ wc1).alloc _
          generalize (wc1.alloc (.cells #[.int .u8 c] 5)) = wc2 at RC TC TP ⊢
          have HTP1 := Lib.hid TP
          clear TP
          generalize wc1.heap.size = xb2 at RC ⊢
          have HCV2 : Hid (∀ w' : World, Turns (fun _ => False) wc2 w' → (convert 27 9 (.slice (some ⟨xb2, 0, none⟩) 1 1)).run Try.prog w' = .ok (.string cs) w') := Lib.hid (fun (w' : World) t => by rw [Hcs.out]; exact run_string (row_isBytes (RC.later t (fun x => x)) (by intro z hz; rw [List.mem_singleton.1 hz]; exact HC.out)) 1)
          have HTC2 := Lib.hid TC
          clear TC RC
          refine wpAnyH_less (S' := (fun w' => Turns (fun _ => False) wc2 w' ∧ (convert 27 9 (.slice (some ⟨xb2, 0, none⟩) 1 1)).run Try.prog w' = .ok (.string cs) w')) (fun _ h => ⟨HTP1.out.then h.1, HCV1.out _ (HTP1.out.then h.1)⟩) _ _ _ _ ?_
          have hHeld : Turns (fun _ => False) wc2 wc2 ∧ (convert 27 9 (.slice (some ⟨xb2, 0, none⟩) 1 1)).run Try.prog wc2 = .ok (.string cs) wc2 := ⟨Turns.refl _ _, HCV2.out _ (Turns.refl _ _)⟩
          refine wpAnyH_take (i := 5) (v := ?_) rfl (by kernel_rfl) (by kernel_rfl) (by kernel_rfl) (fun _ _ _ h => h) (Or.inl ⟨by rfl, ?_⟩) (by assumption) ?_
          rotate_left
          · (intro w' hSw; (try dsimp only at hSw); first | (go_simp; done) | (go_simp; with_reducible rfl))
          try simp only [Act.put, List.getElem_toArray, List.getElem_cons_zero, List.getElem_cons_succ, List.setIfInBounds_toArray, List.set_cons_zero, List.set_cons_succ]
          refine wpAnyH_take (i := 6) (v := ?_) rfl (by kernel_rfl) (by kernel_rfl) (by kernel_rfl) (fun _ _ _ h => h) (Or.inl ⟨by rfl, ?_⟩) (by assumption) ?_
          rotate_left
          · (intro w' hSw; (try dsimp only at hSw); first | (go_simp; done) | (go_simp; with_reducible rfl))
          try simp only [Act.put, List.getElem_toArray, List.getElem_cons_zero, List.getElem_cons_succ, List.setIfInBounds_toArray, List.set_cons_zero, List.set_cons_succ]
          refine wpAnyH_take (i := 11) (v := ?_) rfl (by kernel_rfl) (by kernel_rfl) (by kernel_rfl) (fun _ _ _ h => h) (Or.inl ⟨by rfl, ?_⟩) (by assumption) ?_
          rotate_left
          · (intro w' hSw; (try dsimp only at hSw); first | (go_simp; done) | (go_simp; with_reducible rfl))
          try simp only [Act.put, List.getElem_toArray, List.getElem_cons_zero, List.getElem_cons_succ, List.setIfInBounds_toArray, List.set_cons_zero, List.set_cons_succ]
          refine wpAnyH_ready (rs := [36]) (by kernel_rfl) (by simp) ?_
          refine AllReadyH.cons rfl (fun K hK => ?_) AllReadyH.nil
          · go_simp
            clear hHeld
            have RC : Row (wc2.alloc (.cells #[.int .u8 c] 5)) wc2.heap.size 5 (bytes [c]) := heap_new rfl
            have TC : Turns (fun _ => False) w3 (wc2.alloc (.cells #[.int .u8 c] 5)) := HTC2.out.alloc _
            refine hK.out _ _ ⟨(Turns.refl _ wc2).alloc _, HCV2.out _ ((Turns.refl _ wc2).alloc _)⟩ (fun hHeld => ?_)
            clear hK K hHeld
            try simp only [Act.put, List.getElem_toArray, List.getElem_cons_zero, List.getElem_cons_succ, List.setIfInBounds_toArray, List.set_cons_zero, List.set_cons_succ]
            have TP : Turns (fun _ => False) wc2 (wc2.alloc (.cells #[.int .u8 c] 5)) := (Turns.refl _ wc2).alloc _
            generalize (wc2.alloc (.cells #[.int .u8 c] 5)) = wc3 at RC TC TP ⊢
            have HTP2 := Lib.hid TP
            clear TP
            generalize wc2.heap.size = xb3 at RC ⊢
            have HCV3 : Hid (∀ w' : World, Turns (fun _ => False) wc3 w' → (convert 27 9 (.slice (some ⟨xb3, 0, none⟩) 1 1)).run Try.prog w' = .ok (.string cs) w') := Lib.hid (fun (w' : World) t => by rw [Hcs.out]; exact run_string (row_isBytes (RC.later t (fun x => x)) (by intro z hz; rw [List.mem_singleton.1 hz]; exact HC.out)) 1)
            have HTC3 := Lib.hid TC
            clear TC RC
            refine wpAnyH_less (S' := (fun w' => Turns (fun _ => False) wc3 w' ∧ (convert 27 9 (.slice (some ⟨xb3, 0, none⟩) 1 1)).run Try.prog w' = .ok (.string cs) w')) (fun _ h => ⟨HTP2.out.then h.1, HCV2.out _ (HTP2.out.then h.1)⟩) _ _ _ _ ?_
            have hHeld : Turns (fun _ => False) wc3 wc3 ∧ (convert 27 9 (.slice (some ⟨xb3, 0, none⟩) 1 1)).run Try.prog wc3 = .ok (.string cs) wc3 := ⟨Turns.refl _ _, HCV3.out _ (Turns.refl _ _)⟩
            refine wpAnyH_take (i := 37) (v := ?_) rfl (by kernel_rfl) (by kernel_rfl) (by kernel_rfl) (fun _ _ _ h => h) (Or.inl ⟨by rfl, ?_⟩) (by assumption) ?_
            rotate_left
            · (intro w' hSw; (try dsimp only at hSw); first | (go_simp; done) | (go_simp; with_reducible rfl))
            try simp only [Act.put, List.getElem_toArray, List.getElem_cons_zero, List.getElem_cons_succ, List.setIfInBounds_toArray, List.set_cons_zero, List.set_cons_succ]
            refine wpAnyH_take (i := 38) (v := ?_) rfl (by kernel_rfl) (by kernel_rfl) (by kernel_rfl) (fun _ _ _ h => h) (Or.inl ⟨by rfl, ?_⟩) (by assumption) ?_
            rotate_left
            · (intro w' hSw; (try dsimp only at hSw); first | (go_simp; done) | (go_simp; with_reducible rfl))
            try simp only [Act.put, List.getElem_toArray, List.getElem_cons_zero, List.getElem_cons_succ, List.setIfInBounds_toArray, List.set_cons_zero, List.set_cons_succ]
            have hz0 : (s.extract 0 k ++ cs ++ s.extract (k + 1) s.size).size ≤ 6000 := by have := Hc1.out; simp only [ByteArray.size_append, ByteArray.size_extract]; omega
            have hz1 : (s.extract 0 k ++ s.extract (k + 1) s.size).size ≤ 6000 := by simp only [ByteArray.size_append, ByteArray.size_extract]; omega
            have hz2 : (s.extract 0 k ++ cs ++ s.extract k s.size).size ≤ 6000 := by have := Hc1.out; simp only [ByteArray.size_append, ByteArray.size_extract]; omega
            have hz3 : (s.extract 0 k).size ≤ 6000 := by simp only [ByteArray.size_extract]; omega
            have hz4 : (s ++ cs).size ≤ 6000 := by have := Hc1.out; simp only [ByteArray.size_append]; omega
            generalize s.extract 0 k ++ cs ++ s.extract (k + 1) s.size = x0 at hz0 ⊢
            generalize s.extract 0 k ++ s.extract (k + 1) s.size = x1 at hz1 ⊢
            generalize s.extract 0 k ++ cs ++ s.extract k s.size = x2 at hz2 ⊢
            generalize s ++ cs = x4 at hz4 ⊢
            have RS : Row (wc3.alloc (.cells #[.string x0, .string x1, .string x2, .string (s.extract 0 k), .string x4] 9)) wc3.heap.size 9 [.string x0, .string x1, .string x2, .string (s.extract 0 k), .string x4] := heap_new rfl
            have hcell : ∃ t : ByteArray, (wc3.alloc (.cells #[.string x0, .string x1, .string x2, .string (s.extract 0 k), .string x4] 9)).cell? ⟨wc3.heap.size, m, none⟩ = some (.string t) ∧ t.size ≤ 6000 := by
              rcases (by omega : m = 0 ∨ m = 1 ∨ m = 2 ∨ m = 3 ∨ m = 4) with rfl | rfl | rfl | rfl | rfl
              · exact ⟨_, RS.cell _ _ rfl, hz0⟩
              · exact ⟨_, RS.cell _ _ rfl, hz1⟩
              · exact ⟨_, RS.cell _ _ rfl, hz2⟩
              · exact ⟨_, RS.cell _ _ rfl, hz3⟩
              · exact ⟨_, RS.cell _ _ rfl, hz4⟩
            obtain ⟨t, hcell, ht⟩ := hcell
            have TP3 : Turns (fun _ => False) wc3 (wc3.alloc (.cells #[.string x0, .string x1, .string x2, .string (s.extract 0 k), .string x4] 9)) := (Turns.refl _ _).alloc _
            refine wpAnyH_ready (rs := [39]) (by kernel_rfl) (by simp) ?_
            refine AllReadyH.cons rfl (fun K hK => ?_) AllReadyH.nil
            have Hcell := Lib.hid hcell
            clear hcell hz0 hz1 hz2 hz3 hz4 hHeld
            go_simp
            refine hK.out _ _ ⟨TP3, HCV3.out _ TP3⟩ (fun hHeld => ?_)
            clear hK K
            try simp only [Act.put, List.getElem_toArray, List.getElem_cons_zero, List.getElem_cons_succ, List.setIfInBounds_toArray, List.set_cons_zero, List.set_cons_succ]
            have i0 : (0 : Int) ≤ (m : Int) := by omega
            have i1 : (m : Int) < 5 := by omega
            refine wpAnyH_take (i := 44) (v := ?_) rfl (by kernel_rfl) (by kernel_rfl) (by kernel_rfl) (fun _ _ _ h => h) (Or.inl ⟨by rfl, ?_⟩) (by assumption) ?_
            rotate_left
            · (intro w' hSw; (try dsimp only at hSw); first | (go_simp; done) | (go_simp; with_reducible rfl))
            try simp only [Act.put, List.getElem_toArray, List.getElem_cons_zero, List.getElem_cons_succ, List.setIfInBounds_toArray, List.set_cons_zero, List.set_cons_succ]
            have hcell := Hcell.out
            refine wpAnyH_ready (rs := [45]) (by kernel_rfl) (by simp) ?_
            refine AllReadyH.cons rfl (fun K hK => ?_) AllReadyH.nil
            clear hHeld
            go_simp
            refine hK.out _ _ ⟨TP3, HCV3.out _ TP3⟩ (fun hHeld => ?_)
            clear hK K hHeld
            try simp only [Act.put, List.getElem_toArray, List.getElem_cons_zero, List.getElem_cons_succ, List.setIfInBounds_toArray, List.set_cons_zero, List.set_cons_succ]
            refine wpAnyH_ready (rs := [46]) (by kernel_rfl) (by simp) ?_
            refine AllReadyH.cons rfl (fun K hK => ?_) AllReadyH.nil
            go_simp
            refine hK.out _ _ ⟨TP3, HCV3.out _ TP3⟩ (fun hHeld => ?_)
            clear hK K hHeld
            try simp only [Act.put, List.getElem_toArray, List.getElem_cons_zero, List.getElem_cons_succ, List.setIfInBounds_toArray, List.set_cons_zero, List.set_cons_succ]
            refine wpAnyH_done (by kernel_rfl) ?_ _
            have HTF := Lib.hid (HTC3.out.then TP3)
            clear TP3 RS hcell Hcell i0 i1
            generalize wc3.alloc (.cells #[.string x0, .string x1, .string x2, .string (s.extract 0 k), .string x4] 9) = wf at HTF ⊢
            clear n1 n2 n3 n4 n5 hkw k0 k1 k2 k3 k4 k5 k6 hmm hm
            obtain ⟨gq, ev, av, LL, fs, D1, D2⟩ := dec_two (nums t)
            have HD1 := Lib.hid D1
            have HD2 := Lib.hid D2
            obtain ⟨a5, c5, w5, hcv, IB5, T5⟩ := bytes_of t wf
            have HIB5 := Lib.hid IB5
            have HT5 := Lib.hid (HTF.out.then T5)
            clear D1 D2 IB5 T5
            go_wp2_with fail
            refine (HD1.out w5 _ _ _ HIB5.out (by omega)).mono ?_
            rintro e w6 ⟨ao6, c6, rfl, F6, T6⟩
            clear hcv
            obtain ⟨w7, hw7⟩ : ∃ w7, w6.alloc (.cells #[.int .i64 gq, .slice ao6 LL c6] 24) = w7 := ⟨_, rfl⟩
            have R7 : Row w7 w6.heap.size 24 [.int .i64 gq, .slice ao6 LL c6] := by subst hw7; exact heap_new rfl
            have T7 : Turns (fun _ => False) w6 w7 := by subst hw7; exact (Turns.refl _ _).alloc _
            have HR7 := Lib.hid R7
            have HF7 := Lib.hid (F6.later T7)
            have HT7 := Lib.hid ((HT5.out.then T6).then T7)
            obtain ⟨a8, c8, w8, hcv, IB8, T8⟩ := bytes_of t w7
            have HIB8 := Lib.hid IB8
            have HT8 := Lib.hid T8
            have H7 := Lib.hid hw7
            clear T6 F6 R7 T7 IB8 T8
            subst hw7
            go_wp2_with fail
            refine (HD2.out w8 _ _ _ HIB8.out (by omega)).mono ?_
            rintro e w9 ⟨ao9, c9, rfl, F9, T9⟩
            clear hcv
            obtain ⟨w10, hw10⟩ : ∃ w10, w9.alloc (.cells #[.int .i64 gq, .slice ao9 LL c9] 24) = w10 := ⟨_, rfl⟩
            have R10 : Row w10 w9.heap.size 24 [.int .i64 gq, .slice ao9 LL c9] := by subst hw10; exact heap_new rfl
            have T10 : Turns (fun _ => False) w9 w10 := by subst hw10; exact (Turns.refl _ _).alloc _
            have HR10 := Lib.hid R10
            have HF10 := Lib.hid (F9.later T10)
            have HT10 := Lib.hid ((HT8.out.then T9).then T10)
            have H10 := Lib.hid hw10
            clear T9 F9 R10 T10 hw10
            go_wp2_with fail
            rw [H10.out]
            refine (told_any _).mono ?_
            rintro e w11 ⟨rfl, T11⟩
            have TT := HT10.out.then T11
            have a0 := (HR7.out.later TT (fun x => x)).cell 0 _ rfl
            have a1 := (HR7.out.later TT (fun x => x)).cell 1 _ rfl
            have b0 := (HR10.out.later T11 (fun x => x)).cell 0 _ rfl
            have b1 := (HR10.out.later T11 (fun x => x)).cell 1 _ rfl
            have CS := same_any gq fs _ _ w11 (HF7.out.later TT) (HF10.out.later T11)
            have HTT := Lib.hid (HT7.out.then TT)
            clear TT T11
            go_wp2_with fail
            refine CS.mono ?_
            rintro e w12 ⟨rfl, T12⟩
            go_wp2_with fail
            go_ret
            exact ⟨rfl, below_of ((HT1.out.then HT3.out).then (HTT.out.then T12))⟩
        · go_simp
          clear hHeld
          have RC : Row (wc1.alloc (.cells #[.int .u8 c] 5)) wc1.heap.size 5 (bytes [c]) := heap_new rfl
          have TC : Turns (fun _ => False) w3 (wc1.alloc (.cells #[.int .u8 c] 5)) := HTC1.out.alloc _
          refine hK.out _ _ ⟨(Turns.refl _ wc1).alloc _, HCV1.out _ ((Turns.refl _ wc1).alloc _)⟩ (fun hHeld => ?_)
          clear hK K hHeld
          try simp only [Act.put, List.getElem_toArray, List.getElem_cons_zero, List.getElem_cons_succ, List.setIfInBounds_toArray, List.set_cons_zero, List.set_cons_succ]
          have TP : Turns (fun _ => False) wc1 (wc1.alloc (.cells #[.int .u8 c] 5)) := (Turns.refl _ wc1).alloc _
          generalize (wc1.alloc (.cells #[.int .u8 c] 5)) = wc2 at RC TC TP ⊢
          have HTP1 := Lib.hid TP
          clear TP
          generalize wc1.heap.size = xb2 at RC ⊢
          have HCV2 : Hid (∀ w' : World, Turns (fun _ => False) wc2 w' → (convert 27 9 (.slice (some ⟨xb2, 0, none⟩) 1 1)).run Try.prog w' = .ok (.string cs) w') := Lib.hid (fun (w' : World) t => by rw [Hcs.out]; exact run_string (row_isBytes (RC.later t (fun x => x)) (by intro z hz; rw [List.mem_singleton.1 hz]; exact HC.out)) 1)
          have HTC2 := Lib.hid TC
          clear TC RC
          refine wpAnyH_less (S' := (fun w' => Turns (fun _ => False) wc2 w' ∧ (convert 27 9 (.slice (some ⟨xb2, 0, none⟩) 1 1)).run Try.prog w' = .ok (.string cs) w')) (fun _ h => ⟨HTP1.out.then h.1, HCV1.out _ (HTP1.out.then h.1)⟩) _ _ _ _ ?_
          have hHeld : Turns (fun _ => False) wc2 wc2 ∧ (convert 27 9 (.slice (some ⟨xb2, 0, none⟩) 1 1)).run Try.prog wc2 = .ok (.string cs) wc2 := ⟨Turns.refl _ _, HCV2.out _ (Turns.refl _ _)⟩
          refine wpAnyH_take (i := 37) (v := ?_) rfl (by kernel_rfl) (by kernel_rfl) (by kernel_rfl) (fun _ _ _ h => h) (Or.inl ⟨by rfl, ?_⟩) (by assumption) ?_
          rotate_left
          · (intro w' hSw; (try dsimp only at hSw); first | (go_simp; done) | (go_simp; with_reducible rfl))
          try simp only [Act.put, List.getElem_toArray, List.getElem_cons_zero, List.getElem_cons_succ, List.setIfInBounds_toArray, List.set_cons_zero, List.set_cons_succ]
          refine wpAnyH_take (i := 38) (v := ?_) rfl (by kernel_rfl) (by kernel_rfl) (by kernel_rfl) (fun _ _ _ h => h) (Or.inl ⟨by rfl, ?_⟩) (by assumption) ?_
          rotate_left
          · (intro w' hSw; (try dsimp only at hSw); first | (go_simp; done) | (go_simp; with_reducible rfl))
          try simp only [Act.put, List.getElem_toArray, List.getElem_cons_zero, List.getElem_cons_succ, List.setIfInBounds_toArray, List.set_cons_zero, List.set_cons_succ]
          refine wpAnyH_ready (rs := [4]) (by kernel_rfl) (by simp) ?_
          refine AllReadyH.cons rfl (fun K hK => ?_) AllReadyH.nil
          · go_simp
            clear hHeld
            have RC : Row (wc2.alloc (.cells #[.int .u8 c] 5)) wc2.heap.size 5 (bytes [c]) := heap_new rfl
            have TC : Turns (fun _ => False) w3 (wc2.alloc (.cells #[.int .u8 c] 5)) := HTC2.out.alloc _
            refine hK.out _ _ ⟨(Turns.refl _ wc2).alloc _, HCV2.out _ ((Turns.refl _ wc2).alloc _)⟩ (fun hHeld => ?_)
            clear hK K hHeld
            try simp only [Act.put, List.getElem_toArray, List.getElem_cons_zero, List.getElem_cons_succ, List.setIfInBounds_toArray, List.set_cons_zero, List.set_cons_succ]
            have TP : Turns (fun _ => False) wc2 (wc2.alloc (.cells #[.int .u8 c] 5)) := (Turns.refl _ wc2).alloc _
            generalize (wc2.alloc (.cells #[.int .u8 c] 5)) = wc3 at RC TC TP ⊢
            have HTP2 := Lib.hid TP
            clear TP
            generalize wc2.heap.size = xb3 at RC ⊢
            have HCV3 : Hid (∀ w' : World, Turns (fun _ => False) wc3 w' → (convert 27 9 (.slice (some ⟨xb3, 0, none⟩) 1 1)).run Try.prog w' = .ok (.string cs) w') := Lib.hid (fun (w' : World) t => by rw [Hcs.out]; exact run_string (row_isBytes (RC.later t (fun x => x)) (by intro z hz; rw [List.mem_singleton.1 hz]; exact HC.out)) 1)
            have HTC3 := Lib.hid TC
            clear TC RC
            refine wpAnyH_less (S' := (fun w' => Turns (fun _ => False) wc3 w' ∧ (convert 27 9 (.slice (some ⟨xb3, 0, none⟩) 1 1)).run Try.prog w' = .ok (.string cs) w')) (fun _ h => ⟨HTP2.out.then h.1, HCV2.out _ (HTP2.out.then h.1)⟩) _ _ _ _ ?_
            have hHeld : Turns (fun _ => False) wc3 wc3 ∧ (convert 27 9 (.slice (some ⟨xb3, 0, none⟩) 1 1)).run Try.prog wc3 = .ok (.string cs) wc3 := ⟨Turns.refl _ _, HCV3.out _ (Turns.refl _ _)⟩
            refine wpAnyH_take (i := 5) (v := ?_) rfl (by kernel_rfl) (by kernel_rfl) (by kernel_rfl) (fun _ _ _ h => h) (Or.inl ⟨by rfl, ?_⟩) (by assumption) ?_
            rotate_left
            · (intro w' hSw; (try dsimp only at hSw); first | (go_simp; done) | (go_simp; with_reducible rfl))
            try simp only [Act.put, List.getElem_toArray, List.getElem_cons_zero, List.getElem_cons_succ, List.setIfInBounds_toArray, List.set_cons_zero, List.set_cons_succ]
            refine wpAnyH_take (i := 6) (v := ?_) rfl (by kernel_rfl) (by kernel_rfl) (by kernel_rfl) (fun _ _ _ h => h) (Or.inl ⟨by rfl, ?_⟩) (by assumption) ?_
            rotate_left
            · (intro w' hSw; (try dsimp only at hSw); first | (go_simp; done) | (go_simp; with_reducible rfl))
            try simp only [Act.put, List.getElem_toArray, List.getElem_cons_zero, List.getElem_cons_succ, List.setIfInBounds_toArray, List.set_cons_zero, List.set_cons_succ]
            refine wpAnyH_take (i := 11) (v := ?_) rfl (by kernel_rfl) (by kernel_rfl) (by kernel_rfl) (fun _ _ _ h => h) (Or.inl ⟨by rfl, ?_⟩) (by assumption) ?_
            rotate_left
            · (intro w' hSw; (try dsimp only at hSw); first | (go_simp; done) | (go_simp; with_reducible rfl))
            try simp only [Act.put, List.getElem_toArray, List.getElem_cons_zero, List.getElem_cons_succ, List.setIfInBounds_toArray, List.set_cons_zero, List.set_cons_succ]
            have hz0 : (s.extract 0 k ++ cs ++ s.extract (k + 1) s.size).size ≤ 6000 := by have := Hc1.out; simp only [ByteArray.size_append, ByteArray.size_extract]; omega
            have hz1 : (s.extract 0 k ++ s.extract (k + 1) s.size).size ≤ 6000 := by simp only [ByteArray.size_append, ByteArray.size_extract]; omega
            have hz2 : (s.extract 0 k ++ cs ++ s.extract k s.size).size ≤ 6000 := by have := Hc1.out; simp only [ByteArray.size_append, ByteArray.size_extract]; omega
            have hz3 : (s.extract 0 k).size ≤ 6000 := by simp only [ByteArray.size_extract]; omega
            have hz4 : (s ++ cs).size ≤ 6000 := by have := Hc1.out; simp only [ByteArray.size_append]; omega
            generalize s.extract 0 k ++ cs ++ s.extract (k + 1) s.size = x0 at hz0 ⊢
            generalize s.extract 0 k ++ s.extract (k + 1) s.size = x1 at hz1 ⊢
            generalize s.extract 0 k ++ cs ++ s.extract k s.size = x2 at hz2 ⊢
            generalize s ++ cs = x4 at hz4 ⊢
            have RS : Row (wc3.alloc (.cells #[.string x0, .string x1, .string x2, .string (s.extract 0 k), .string x4] 9)) wc3.heap.size 9 [.string x0, .string x1, .string x2, .string (s.extract 0 k), .string x4] := heap_new rfl
            have hcell : ∃ t : ByteArray, (wc3.alloc (.cells #[.string x0, .string x1, .string x2, .string (s.extract 0 k), .string x4] 9)).cell? ⟨wc3.heap.size, m, none⟩ = some (.string t) ∧ t.size ≤ 6000 := by
              rcases (by omega : m = 0 ∨ m = 1 ∨ m = 2 ∨ m = 3 ∨ m = 4) with rfl | rfl | rfl | rfl | rfl
              · exact ⟨_, RS.cell _ _ rfl, hz0⟩
              · exact ⟨_, RS.cell _ _ rfl, hz1⟩
              · exact ⟨_, RS.cell _ _ rfl, hz2⟩
              · exact ⟨_, RS.cell _ _ rfl, hz3⟩
              · exact ⟨_, RS.cell _ _ rfl, hz4⟩
            obtain ⟨t, hcell, ht⟩ := hcell
            have TP3 : Turns (fun _ => False) wc3 (wc3.alloc (.cells #[.string x0, .string x1, .string x2, .string (s.extract 0 k), .string x4] 9)) := (Turns.refl _ _).alloc _
            refine wpAnyH_ready (rs := [39]) (by kernel_rfl) (by simp) ?_
            refine AllReadyH.cons rfl (fun K hK => ?_) AllReadyH.nil
            have Hcell := Lib.hid hcell
            clear hcell hz0 hz1 hz2 hz3 hz4 hHeld
            go_simp
            refine hK.out _ _ ⟨TP3, HCV3.out _ TP3⟩ (fun hHeld => ?_)
            clear hK K
            try simp only [Act.put, List.getElem_toArray, List.getElem_cons_zero, List.getElem_cons_succ, List.setIfInBounds_toArray, List.set_cons_zero, List.set_cons_succ]
            have i0 : (0 : Int) ≤ (m : Int) := by omega
            have i1 : (m : Int) < 5 := by omega
            refine wpAnyH_take (i := 44) (v := ?_) rfl (by kernel_rfl) (by kernel_rfl) (by kernel_rfl) (fun _ _ _ h => h) (Or.inl ⟨by rfl, ?_⟩) (by assumption) ?_
            rotate_left
            · (intro w' hSw; (try dsimp only at hSw); first | (go_simp; done) | (go_simp; with_reducible rfl))
            try simp only [Act.put, List.getElem_toArray, List.getElem_cons_zero, List.getElem_cons_succ, List.setIfInBounds_toArray, List.set_cons_zero, List.set_cons_succ]
            have hcell := Hcell.out
            refine wpAnyH_ready (rs := [45]) (by kernel_rfl) (by simp) ?_
            refine AllReadyH.cons rfl (fun K hK => ?_) AllReadyH.nil
            clear hHeld
            go_simp
            refine hK.out _ _ ⟨TP3, HCV3.out _ TP3⟩ (fun hHeld => ?_)
            clear hK K hHeld
            try simp only [Act.put, List.getElem_toArray, List.getElem_cons_zero, List.getElem_cons_succ, List.setIfInBounds_toArray, List.set_cons_zero, List.set_cons_succ]
            refine wpAnyH_ready (rs := [46]) (by kernel_rfl) (by simp) ?_
            refine AllReadyH.cons rfl (fun K hK => ?_) AllReadyH.nil
            go_simp
            refine hK.out _ _ ⟨TP3, HCV3.out _ TP3⟩ (fun hHeld => ?_)
            clear hK K hHeld
            try simp only [Act.put, List.getElem_toArray, List.getElem_cons_zero, List.getElem_cons_succ, List.setIfInBounds_toArray, List.set_cons_zero, List.set_cons_succ]
            refine wpAnyH_done (by kernel_rfl) ?_ _
            have HTF := Lib.hid (HTC3.out.then TP3)
            clear TP3 RS hcell Hcell i0 i1
            generalize wc3.alloc (.cells #[.string x0, .string x1, .string x2, .string (s.extract 0 k), .string x4] 9) = wf at HTF ⊢
            clear n1 n2 n3 n4 n5 hkw k0 k1 k2 k3 k4 k5 k6 hmm hm
            obtain ⟨gq, ev, av, LL, fs, D1, D2⟩ := dec_two (nums t)
            have HD1 := Lib.hid D1
            have HD2 := Lib.hid D2
            obtain ⟨a5, c5, w5, hcv, IB5, T5⟩ := bytes_of t wf
            have HIB5 := Lib.hid IB5
            have HT5 := Lib.hid (HTF.out.then T5)
            clear D1 D2 IB5 T5
            go_wp2_with fail
            refine (HD1.out w5 _ _ _ HIB5.out (by omega)).mono ?_
            rintro e w6 ⟨ao6, c6, rfl, F6, T6⟩
            clear hcv
            obtain ⟨w7, hw7⟩ : ∃ w7, w6.alloc (.cells #[.int .i64 gq, .slice ao6 LL c6] 24) = w7 := ⟨_, rfl⟩
            have R7 : Row w7 w6.heap.size 24 [.int .i64 gq, .slice ao6 LL c6] := by subst hw7; exact heap_new rfl
            have T7 : Turns (fun _ => False) w6 w7 := by subst hw7; exact (Turns.refl _ _).alloc _
            have HR7 := Lib.hid R7
            have HF7 := Lib.hid (F6.later T7)
            have HT7 := Lib.hid ((HT5.out.then T6).then T7)
            obtain ⟨a8, c8, w8, hcv, IB8, T8⟩ := bytes_of t w7
            have HIB8 := Lib.hid IB8
            have HT8 := Lib.hid T8
            have H7 := Lib.hid hw7
            clear T6 F6 R7 T7 IB8 T8
            subst hw7
            go_wp2_with fail
            refine (HD2.out w8 _ _ _ HIB8.out (by omega)).mono ?_
            rintro e w9 ⟨ao9, c9, rfl, F9, T9⟩
            clear hcv
            obtain ⟨w10, hw10⟩ : ∃ w10, w9.alloc (.cells #[.int .i64 gq, .slice ao9 LL c9] 24) = w10 := ⟨_, rfl⟩
            have R10 : Row w10 w9.heap.size 24 [.int .i64 gq, .slice ao9 LL c9] := by subst hw10; exact heap_new rfl
            have T10 : Turns (fun _ => False) w9 w10 := by subst hw10; exact (Turns.refl _ _).alloc _
            have HR10 := Lib.hid R10
            have HF10 := Lib.hid (F9.later T10)
            have HT10 := Lib.hid ((HT8.out.then T9).then T10)
            have H10 := Lib.hid hw10
            clear T9 F9 R10 T10 hw10
            go_wp2_with fail
            rw [H10.out]
            refine (told_any _).mono ?_
            rintro e w11 ⟨rfl, T11⟩
            have TT := HT10.out.then T11
            have a0 := (HR7.out.later TT (fun x => x)).cell 0 _ rfl
            have a1 := (HR7.out.later TT (fun x => x)).cell 1 _ rfl
            have b0 := (HR10.out.later T11 (fun x => x)).cell 0 _ rfl
            have b1 := (HR10.out.later T11 (fun x => x)).cell 1 _ rfl
            have CS := same_any gq fs _ _ w11 (HF7.out.later TT) (HF10.out.later T11)
            have HTT := Lib.hid (HT7.out.then TT)
            clear TT T11
            go_wp2_with fail
            refine CS.mono ?_
            rintro e w12 ⟨rfl, T12⟩
            go_wp2_with fail
            go_ret
            exact ⟨rfl, below_of ((HT1.out.then HT3.out).then (HTT.out.then T12))⟩
      · go_simp
        clear hHeld
        have RC : Row (w3.alloc (.cells #[.int .u8 c] 5)).drew w3.heap.size 5 (bytes [c]) := Row.drew (heap_new rfl)
        have TC : Turns (fun _ => False) w3 (w3.alloc (.cells #[.int .u8 c] 5)).drew := ((Turns.refl _ w3).alloc _).drew
        refine hK.out _ _ TC (fun hHeld => ?_)
        clear hK K hHeld
        try simp only [Act.put, List.getElem_toArray, List.getElem_cons_zero, List.getElem_cons_succ, List.setIfInBounds_toArray, List.set_cons_zero, List.set_cons_succ]
        generalize (w3.alloc (.cells #[.int .u8 c] 5)).drew = wc1 at RC TC ⊢
        generalize w3.heap.size = xb1 at RC ⊢
        have HCV1 : Hid (∀ w' : World, Turns (fun _ => False) wc1 w' → (convert 27 9 (.slice (some ⟨xb1, 0, none⟩) 1 1)).run Try.prog w' = .ok (.string cs) w') := Lib.hid (fun (w' : World) t => by rw [Hcs.out]; exact run_string (row_isBytes (RC.later t (fun x => x)) (by intro z hz; rw [List.mem_singleton.1 hz]; exact HC.out)) 1)
        have HTC1 := Lib.hid TC
        clear TC RC
        refine wpAnyH_less (S' := (fun w' => Turns (fun _ => False) wc1 w' ∧ (convert 27 9 (.slice (some ⟨xb1, 0, none⟩) 1 1)).run Try.prog w' = .ok (.string cs) w')) (fun _ h => HTC1.out.then h.1) _ _ _ _ ?_
        have hHeld : Turns (fun _ => False) wc1 wc1 ∧ (convert 27 9 (.slice (some ⟨xb1, 0, none⟩) 1 1)).run Try.prog wc1 = .ok (.string cs) wc1 := ⟨Turns.refl _ _, HCV1.out _ (Turns.refl _ _)⟩
        refine wpAnyH_take (i := 37) (v := ?_) rfl (by kernel_rfl) (by kernel_rfl) (by kernel_rfl) (fun _ _ _ h => h) (Or.inl ⟨by rfl, ?_⟩) (by assumption) ?_
        rotate_left
        · (intro w' hSw; (try dsimp only at hSw); first | (go_simp; done) | (go_simp; with_reducible rfl))
        try simp only [Act.put, List.getElem_toArray, List.getElem_cons_zero, List.getElem_cons_succ, List.setIfInBounds_toArray, List.set_cons_zero, List.set_cons_succ]
        refine wpAnyH_take (i := 38) (v := ?_) rfl (by kernel_rfl) (by kernel_rfl) (by kernel_rfl) (fun _ _ _ h => h) (Or.inl ⟨by rfl, ?_⟩) (by assumption) ?_
        rotate_left
        · (intro w' hSw; (try dsimp only at hSw); first | (go_simp; done) | (go_simp; with_reducible rfl))
        try simp only [Act.put, List.getElem_toArray, List.getElem_cons_zero, List.getElem_cons_succ, List.setIfInBounds_toArray, List.set_cons_zero, List.set_cons_succ]
        refine wpAnyH_ready (rs := [4, 24]) (by kernel_rfl) (by simp) ?_
        refine AllReadyH.cons rfl (fun K hK => ?_) (AllReadyH.cons rfl (fun K hK => ?_) AllReadyH.nil)
        · go_simp
          clear hHeld
          have RC : Row (wc1.alloc (.cells #[.int .u8 c] 5)) wc1.heap.size 5 (bytes [c]) := heap_new rfl
          have TC : Turns (fun _ => False) w3 (wc1.alloc (.cells #[.int .u8 c] 5)) := HTC1.out.alloc _
          refine hK.out _ _ ⟨(Turns.refl _ wc1).alloc _, HCV1.out _ ((Turns.refl _ wc1).alloc _)⟩ (fun hHeld => ?_)
          clear hK K hHeld
          try simp only [Act.put, List.getElem_toArray, List.getElem_cons_zero, List.getElem_cons_succ, List.setIfInBounds_toArray, List.set_cons_zero, List.set_cons_succ]
          have TP : Turns (fun _ => False) wc1 (wc1.alloc (.cells #[.int .u8 c] 5)) := (Turns.refl _ wc1).alloc _
          generalize (wc1.alloc (.cells #[.int .u8 c] 5)) = wc2 at RC TC TP ⊢
          have HTP1 := Lib.hid TP
          clear TP
          generalize wc1.heap.size = xb2 at RC ⊢
          have HCV2 : Hid (∀ w' : World, Turns (fun _ => False) wc2 w' → (convert 27 9 (.slice (some ⟨xb2, 0, none⟩) 1 1)).run Try.prog w' = .ok (.string cs) w') := Lib.hid (fun (w' : World) t => by rw [Hcs.out]; exact run_string (row_isBytes (RC.later t (fun x => x)) (by intro z hz; rw [List.mem_singleton.1 hz]; exact HC.out)) 1)
          have HTC2 := Lib.hid TC
          clear TC RC
          refine wpAnyH_less (S' := (fun w' => Turns (fun _ => False) wc2 w' ∧ (convert 27 9 (.slice (some ⟨xb2, 0, none⟩) 1 1)).run Try.prog w' = .ok (.string cs) w')) (fun _ h => ⟨HTP1.out.then h.1, HCV1.out _ (HTP1.out.then h.1)⟩) _ _ _ _ ?_
          have hHeld : Turns (fun _ => False) wc2 wc2 ∧ (convert 27 9 (.slice (some ⟨xb2, 0, none⟩) 1 1)).run Try.prog wc2 = .ok (.string cs) wc2 := ⟨Turns.refl _ _, HCV2.out _ (Turns.refl _ _)⟩
          refine wpAnyH_take (i := 5) (v := ?_) rfl (by kernel_rfl) (by kernel_rfl) (by kernel_rfl) (fun _ _ _ h => h) (Or.inl ⟨by rfl, ?_⟩) (by assumption) ?_
          rotate_left
          · (intro w' hSw; (try dsimp only at hSw); first | (go_simp; done) | (go_simp; with_reducible rfl))
          try simp only [Act.put, List.getElem_toArray, List.getElem_cons_zero, List.getElem_cons_succ, List.setIfInBounds_toArray, List.set_cons_zero, List.set_cons_succ]
          refine wpAnyH_take (i := 6) (v := ?_) rfl (by kernel_rfl) (by kernel_rfl) (by kernel_rfl) (fun _ _ _ h => h) (Or.inl ⟨by rfl, ?_⟩) (by assumption) ?_
          rotate_left
          · (intro w' hSw; (try dsimp only at hSw); first | (go_simp; done) | (go_simp; with_reducible rfl))
          try simp only [Act.put, List.getElem_toArray, List.getElem_cons_zero, List.getElem_cons_succ, List.setIfInBounds_toArray, List.set_cons_zero, List.set_cons_succ]
          refine wpAnyH_take (i := 11) (v := ?_) rfl (by kernel_rfl) (by kernel_rfl) (by kernel_rfl) (fun _ _ _ h => h) (Or.inl ⟨by rfl, ?_⟩) (by assumption) ?_
          rotate_left
          · (intro w' hSw; (try dsimp only at hSw); first | (go_simp; done) | (go_simp; with_reducible rfl))
          try simp only [Act.put, List.getElem_toArray, List.getElem_cons_zero, List.getElem_cons_succ, List.setIfInBounds_toArray, List.set_cons_zero, List.set_cons_succ]
          refine wpAnyH_ready (rs := [24]) (by kernel_rfl) (by simp) ?_
          refine AllReadyH.cons rfl (fun K hK => ?_) AllReadyH.nil
          · go_simp
            clear hHeld
            have RC : Row (wc2.alloc (.cells #[.int .u8 c] 5)) wc2.heap.size 5 (bytes [c]) := heap_new rfl
            have TC : Turns (fun _ => False) w3 (wc2.alloc (.cells #[.int .u8 c] 5)) := HTC2.out.alloc _
            refine hK.out _ _ ⟨(Turns.refl _ wc2).alloc _, HCV2.out _ ((Turns.refl _ wc2).alloc _)⟩ (fun hHeld => ?_)
            clear hK K hHeld
            try simp only [Act.put, List.getElem_toArray, List.getElem_cons_zero, List.getElem_cons_succ, List.setIfInBounds_toArray, List.set_cons_zero, List.set_cons_succ]
            have TP : Turns (fun _ => False) wc2 (wc2.alloc (.cells #[.int .u8 c] 5)) := (Turns.refl _ wc2).alloc _
            generalize (wc2.alloc (.cells #[.int .u8 c] 5)) = wc3 at RC TC TP ⊢
            have HTP2 := Lib.hid TP
            clear TP
            generalize wc2.heap.size = xb3 at RC ⊢
            have HCV3 : Hid (∀ w' : World, Turns (fun _ => False) wc3 w' → (convert 27 9 (.slice (some ⟨xb3, 0, none⟩) 1 1)).run Try.prog w' = .ok (.string cs) w') := Lib.hid (fun (w' : World) t => by rw [Hcs.out]; exact run_string (row_isBytes (RC.later t (fun x => x)) (by intro z hz; rw [List.mem_singleton.1 hz]; exact HC.out)) 1)
            have HTC3 := Lib.hid TC
            clear TC RC
            refine wpAnyH_less (S' := (fun w' => Turns (fun _ => False) wc3 w' ∧ (convert 27 9 (.slice (some ⟨xb3, 0, none⟩) 1 1)).run Try.prog w' = .ok (.string cs) w')) (fun _ h => ⟨HTP2.out.then h.1, HCV2.out _ (HTP2.out.then h.1)⟩) _ _ _ _ ?_
            have hHeld : Turns (fun _ => False) wc3 wc3 ∧ (convert 27 9 (.slice (some ⟨xb3, 0, none⟩) 1 1)).run Try.prog wc3 = .ok (.string cs) wc3 := ⟨Turns.refl _ _, HCV3.out _ (Turns.refl _ _)⟩
            refine wpAnyH_take (i := 25) (v := ?_) rfl (by kernel_rfl) (by kernel_rfl) (by kernel_rfl) (fun _ _ _ h => h) (Or.inl ⟨by rfl, ?_⟩) (by assumption) ?_
            rotate_left
            · (intro w' hSw; (try dsimp only at hSw); first | (go_simp; done) | (go_simp; with_reducible rfl))
            try simp only [Act.put, List.getElem_toArray, List.getElem_cons_zero, List.getElem_cons_succ, List.setIfInBounds_toArray, List.set_cons_zero, List.set_cons_succ]
            refine wpAnyH_take (i := 26) (v := ?_) rfl (by kernel_rfl) (by kernel_rfl) (by kernel_rfl) (fun _ _ _ h => h) (Or.inl ⟨by rfl, ?_⟩) (by assumption) ?_
            rotate_left
            · (intro w' hSw; (try dsimp only at hSw); first | (go_simp; done) | (go_simp; with_reducible rfl))
            try simp only [Act.put, List.getElem_toArray, List.getElem_cons_zero, List.getElem_cons_succ, List.setIfInBounds_toArray, List.set_cons_zero, List.set_cons_succ]
            refine wpAnyH_take (i := 30) (v := ?_) rfl (by kernel_rfl) (by kernel_rfl) (by kernel_rfl) (fun _ _ _ h => h) (Or.inl ⟨by rfl, ?_⟩) (by assumption) ?_
            rotate_left
            · (intro w' hSw; (try dsimp only at hSw); first | (go_simp; done) | (go_simp; with_reducible rfl))
            try simp only [Act.put, List.getElem_toArray, List.getElem_cons_zero, List.getElem_cons_succ, List.setIfInBounds_toArray, List.set_cons_zero, List.set_cons_succ]
            have hz0 : (s.extract 0 k ++ cs ++ s.extract (k + 1) s.size).size ≤ 6000 := by have := Hc1.out; simp only [ByteArray.size_append, ByteArray.size_extract]; omega
            have hz1 : (s.extract 0 k ++ s.extract (k + 1) s.size).size ≤ 6000 := by simp only [ByteArray.size_append, ByteArray.size_extract]; omega
            have hz2 : (s.extract 0 k ++ cs ++ s.extract k s.size).size ≤ 6000 := by have := Hc1.out; simp only [ByteArray.size_append, ByteArray.size_extract]; omega
            have hz3 : (s.extract 0 k).size ≤ 6000 := by simp only [ByteArray.size_extract]; omega
            have hz4 : (s ++ cs).size ≤ 6000 := by have := Hc1.out; simp only [ByteArray.size_append]; omega
            generalize s.extract 0 k ++ cs ++ s.extract (k + 1) s.size = x0 at hz0 ⊢
            generalize s.extract 0 k ++ s.extract (k + 1) s.size = x1 at hz1 ⊢
            generalize s.extract 0 k ++ cs ++ s.extract k s.size = x2 at hz2 ⊢
            generalize s ++ cs = x4 at hz4 ⊢
            have RS : Row (wc3.alloc (.cells #[.string x0, .string x1, .string x2, .string (s.extract 0 k), .string x4] 9)) wc3.heap.size 9 [.string x0, .string x1, .string x2, .string (s.extract 0 k), .string x4] := heap_new rfl
            have hcell : ∃ t : ByteArray, (wc3.alloc (.cells #[.string x0, .string x1, .string x2, .string (s.extract 0 k), .string x4] 9)).cell? ⟨wc3.heap.size, m, none⟩ = some (.string t) ∧ t.size ≤ 6000 := by
              rcases (by omega : m = 0 ∨ m = 1 ∨ m = 2 ∨ m = 3 ∨ m = 4) with rfl | rfl | rfl | rfl | rfl
              · exact ⟨_, RS.cell _ _ rfl, hz0⟩
              · exact ⟨_, RS.cell _ _ rfl, hz1⟩
              · exact ⟨_, RS.cell _ _ rfl, hz2⟩
              · exact ⟨_, RS.cell _ _ rfl, hz3⟩
              · exact ⟨_, RS.cell _ _ rfl, hz4⟩
            obtain ⟨t, hcell, ht⟩ := hcell
            have TP3 : Turns (fun _ => False) wc3 (wc3.alloc (.cells #[.string x0, .string x1, .string x2, .string (s.extract 0 k), .string x4] 9)) := (Turns.refl _ _).alloc _
            refine wpAnyH_ready (rs := [39]) (by kernel_rfl) (by simp) ?_
            refine AllReadyH.cons rfl (fun K hK => ?_) AllReadyH.nil
            have Hcell := Lib.hid hcell
            clear hcell hz0 hz1 hz2 hz3 hz4 hHeld
            go_simp
            refine hK.out _ _ ⟨TP3, HCV3.out _ TP3⟩ (fun hHeld => ?_)
            clear hK K
            try simp only [Act.put, List.getElem_toArray, List.getElem_cons_zero, List.getElem_cons_succ, List.setIfInBounds_toArray, List.set_cons_zero, List.set_cons_succ]
            have i0 : (0 : Int) ≤ (m : Int) := by omega
            have i1 : (m : Int) < 5 := by omega
            refine wpAnyH_take (i := 44) (v := ?_) rfl (by kernel_rfl) (by kernel_rfl) (by kernel_rfl) (fun _ _ _ h => h) (Or.inl ⟨by rfl, ?_⟩) (by assumption) ?_
            rotate_left
            · (intro w' hSw; (try dsimp only at hSw); first | (go_simp; done) | (go_simp; with_reducible rfl))
            try simp only [Act.put, List.getElem_toArray, List.getElem_cons_zero, List.getElem_cons_succ, List.setIfInBounds_toArray, List.set_cons_zero, List.set_cons_succ]
            have hcell := Hcell.out
            refine wpAnyH_ready (rs := [45]) (by kernel_rfl) (by simp) ?_
            refine AllReadyH.cons rfl (fun K hK => ?_) AllReadyH.nil
            clear hHeld
            go_simp
            refine hK.out _ _ ⟨TP3, HCV3.out _ TP3⟩ (fun hHeld => ?_)
            clear hK K hHeld
            try simp only [Act.put, List.getElem_toArray, List.getElem_cons_zero, List.getElem_cons_succ, List.setIfInBounds_toArray, List.set_cons_zero, List.set_cons_succ]
            refine wpAnyH_ready (rs := [46]) (by kernel_rfl) (by simp) ?_
            refine AllReadyH.cons rfl (fun K hK => ?_) AllReadyH.nil
            go_simp
            refine hK.out _ _ ⟨TP3, HCV3.out _ TP3⟩ (fun hHeld => ?_)
            clear hK K hHeld
            try simp only [Act.put, List.getElem_toArray, List.getElem_cons_zero, List.getElem_cons_succ, List.setIfInBounds_toArray, List.set_cons_zero, List.set_cons_succ]
            refine wpAnyH_done (by kernel_rfl) ?_ _
            have HTF := Lib.hid (HTC3.out.then TP3)
            clear TP3 RS hcell Hcell i0 i1
            generalize wc3.alloc (.cells #[.string x0, .string x1, .string x2, .string (s.extract 0 k), .string x4] 9) = wf at HTF ⊢
            clear n1 n2 n3 n4 n5 hkw k0 k1 k2 k3 k4 k5 k6 hmm hm
            obtain ⟨gq, ev, av, LL, fs, D1, D2⟩ := dec_two (nums t)
            have HD1 := Lib.hid D1
            have HD2 := Lib.hid D2
            obtain ⟨a5, c5, w5, hcv, IB5, T5⟩ := bytes_of t wf
            have HIB5 := Lib.hid IB5
            have HT5 := Lib.hid (HTF.out.then T5)
            clear D1 D2 IB5 T5
            go_wp2_with fail
            refine (HD1.out w5 _ _ _ HIB5.out (by omega)).mono ?_
            rintro e w6 ⟨ao6, c6, rfl, F6, T6⟩
            clear hcv
            obtain ⟨w7, hw7⟩ : ∃ w7, w6.alloc (.cells #[.int .i64 gq, .slice ao6 LL c6] 24) = w7 := ⟨_, rfl⟩
            have R7 : Row w7 w6.heap.size 24 [.int .i64 gq, .slice ao6 LL c6] := by subst hw7; exact heap_new rfl
            have T7 : Turns (fun _ => False) w6 w7 := by subst hw7; exact (Turns.refl _ _).alloc _
            have HR7 := Lib.hid R7
            have HF7 := Lib.hid (F6.later T7)
            have HT7 := Lib.hid ((HT5.out.then T6).then T7)
            obtain ⟨a8, c8, w8, hcv, IB8, T8⟩ := bytes_of t w7
            have HIB8 := Lib.hid IB8
            have HT8 := Lib.hid T8
            have H7 := Lib.hid hw7
            clear T6 F6 R7 T7 IB8 T8
            subst hw7
            go_wp2_with fail
            refine (HD2.out w8 _ _ _ HIB8.out (by omega)).mono ?_
            rintro e w9 ⟨ao9, c9, rfl, F9, T9⟩
            clear hcv
            obtain ⟨w10, hw10⟩ : ∃ w10, w9.alloc (.cells #[.int .i64 gq, .slice ao9 LL c9] 24) = w10 := ⟨_, rfl⟩
            have R10 : Row w10 w9.heap.size 24 [.int .i64 gq, .slice ao9 LL c9] := by subst hw10; exact heap_new rfl
            have T10 : Turns (fun _ => False) w9 w10 := by subst hw10; exact (Turns.refl _ _).alloc _
            have HR10 := Lib.hid R10
            have HF10 := Lib.hid (F9.later T10)
            have HT10 := Lib.hid ((HT8.out.then T9).then T10)
            have H10 := Lib.hid hw10
            clear T9 F9 R10 T10 hw10
            go_wp2_with fail
            rw [H10.out]
            refine (told_any _).mono ?_
            rintro e w11 ⟨rfl, T11⟩
            have TT := HT10.out.then T11
            have a0 := (HR7.out.later TT (fun x => x)).cell 0 _ rfl
            have a1 := (HR7.out.later TT (fun x => x)).cell 1 _ rfl
            have b0 := (HR10.out.later T11 (fun x => x)).cell 0 _ rfl
            have b1 := (HR10.out.later T11 (fun x => x)).cell 1 _ rfl
            have CS := same_any gq fs _ _ w11 (HF7.out.later TT) (HF10.out.later T11)
            have HTT := Lib.hid (HT7.out.then TT)
            clear TT T11
            go_wp2_with fail
            refine CS.mono ?_
            rintro e w12 ⟨rfl, T12⟩
            go_wp2_with fail
            go_ret
            exact ⟨rfl, below_of ((HT1.out.then HT3.out).then (HTT.out.then T12))⟩
        · go_simp
          clear hHeld
          have RC : Row (wc1.alloc (.cells #[.int .u8 c] 5)) wc1.heap.size 5 (bytes [c]) := heap_new rfl
          have TC : Turns (fun _ => False) w3 (wc1.alloc (.cells #[.int .u8 c] 5)) := HTC1.out.alloc _
          refine hK.out _ _ ⟨(Turns.refl _ wc1).alloc _, HCV1.out _ ((Turns.refl _ wc1).alloc _)⟩ (fun hHeld => ?_)
          clear hK K hHeld
          try simp only [Act.put, List.getElem_toArray, List.getElem_cons_zero, List.getElem_cons_succ, List.setIfInBounds_toArray, List.set_cons_zero, List.set_cons_succ]
          have TP : Turns (fun _ => False) wc1 (wc1.alloc (.cells #[.int .u8 c] 5)) := (Turns.refl _ wc1).alloc _
          generalize (wc1.alloc (.cells #[.int .u8 c] 5)) = wc2 at RC TC TP ⊢
          have HTP1 := Lib.hid TP
          clear TP
          generalize wc1.heap.size = xb2 at RC ⊢
          have HCV2 : Hid (∀ w' : World, Turns (fun _ => False) wc2 w' → (convert 27 9 (.slice (some ⟨xb2, 0, none⟩) 1 1)).run Try.prog w' = .ok (.string cs) w') := Lib.hid (fun (w' : World) t => by rw [Hcs.out]; exact run_string (row_isBytes (RC.later t (fun x => x)) (by intro z hz; rw [List.mem_singleton.1 hz]; exact HC.out)) 1)
          have HTC2 := Lib.hid TC
          clear TC RC
          refine wpAnyH_less (S' := (fun w' => Turns (fun _ => False) wc2 w' ∧ (convert 27 9 (.slice (some ⟨xb2, 0, none⟩) 1 1)).run Try.prog w' = .ok (.string cs) w')) (fun _ h => ⟨HTP1.out.then h.1, HCV1.out _ (HTP1.out.then h.1)⟩) _ _ _ _ ?_
          have hHeld : Turns (fun _ => False) wc2 wc2 ∧ (convert 27 9 (.slice (some ⟨xb2, 0, none⟩) 1 1)).run Try.prog wc2 = .ok (.string cs) wc2 := ⟨Turns.refl _ _, HCV2.out _ (Turns.refl _ _)⟩
          refine wpAnyH_take (i := 25) (v := ?_) rfl (by kernel_rfl) (by kernel_rfl) (by kernel_rfl) (fun _ _ _ h => h) (Or.inl ⟨by rfl, ?_⟩) (by assumption) ?_
          rotate_left
          · (intro w' hSw; (try dsimp only at hSw); first | (go_simp; done) | (go_simp; with_reducible rfl))
          try simp only [Act.put, List.getElem_toArray, List.getElem_cons_zero, List.getElem_cons_succ, List.setIfInBounds_toArray, List.set_cons_zero, List.set_cons_succ]
          refine wpAnyH_take (i := 26) (v := ?_) rfl (by kernel_rfl) (by kernel_rfl) (by kernel_rfl) (fun _ _ _ h => h) (Or.inl ⟨by rfl, ?_⟩) (by assumption) ?_
          rotate_left
          · (intro w' hSw; (try dsimp only at hSw); first | (go_simp; done) | (go_simp; with_reducible rfl))
          try simp only [Act.put, List.getElem_toArray, List.getElem_cons_zero, List.getElem_cons_succ, List.setIfInBounds_toArray, List.set_cons_zero, List.set_cons_succ]
          refine wpAnyH_take (i := 30) (v := ?_) rfl (by kernel_rfl) (by kernel_rfl) (by kernel_rfl) (fun _ _ _ h => h) (Or.inl ⟨by rfl, ?_⟩) (by assumption) ?_
          rotate_left
          · (intro w' hSw; (try dsimp only at hSw); first | (go_simp; done) | (go_simp; with_reducible rfl))
          try simp only [Act.put, List.getElem_toArray, List.getElem_cons_zero, List.getElem_cons_succ, List.setIfInBounds_toArray, List.set_cons_zero, List.set_cons_succ]
          refine wpAnyH_ready (rs := [4]) (by kernel_rfl) (by simp) ?_
          refine AllReadyH.cons rfl (fun K hK => ?_) AllReadyH.nil
          · go_simp
            clear hHeld
            have RC : Row (wc2.alloc (.cells #[.int .u8 c] 5)) wc2.heap.size 5 (bytes [c]) := heap_new rfl
            have TC : Turns (fun _ => False) w3 (wc2.alloc (.cells #[.int .u8 c] 5)) := HTC2.out.alloc _
            refine hK.out _ _ ⟨(Turns.refl _ wc2).alloc _, HCV2.out _ ((Turns.refl _ wc2).alloc _)⟩ (fun hHeld => ?_)
            clear hK K hHeld
            try simp only [Act.put, List.getElem_toArray, List.getElem_cons_zero, List.getElem_cons_succ, List.setIfInBounds_toArray, List.set_cons_zero, List.set_cons_succ]
            have TP : Turns (fun _ => False) wc2 (wc2.alloc (.cells #[.int .u8 c] 5)) := (Turns.refl _ wc2).alloc _
            generalize (wc2.alloc (.cells #[.int .u8 c] 5)) = wc3 at RC TC TP ⊢
            have HTP2 := Lib.hid TP
            clear TP
            generalize wc2.heap.size = xb3 at RC ⊢
            have HCV3 : Hid (∀ w' : World, Turns (fun _ => False) wc3 w' → (convert 27 9 (.slice (some ⟨xb3, 0, none⟩) 1 1)).run Try.prog w' = .ok (.string cs) w') := Lib.hid (fun (w' : World) t => by rw [Hcs.out]; exact run_string (row_isBytes (RC.later t (fun x => x)) (by intro z hz; rw [List.mem_singleton.1 hz]; exact HC.out)) 1)
            have HTC3 := Lib.hid TC
            clear TC RC
            refine wpAnyH_less (S' := (fun w' => Turns (fun _ => False) wc3 w' ∧ (convert 27 9 (.slice (some ⟨xb3, 0, none⟩) 1 1)).run Try.prog w' = .ok (.string cs) w')) (fun _ h => ⟨HTP2.out.then h.1, HCV2.out _ (HTP2.out.then h.1)⟩) _ _ _ _ ?_
            have hHeld : Turns (fun _ => False) wc3 wc3 ∧ (convert 27 9 (.slice (some ⟨xb3, 0, none⟩) 1 1)).run Try.prog wc3 = .ok (.string cs) wc3 := ⟨Turns.refl _ _, HCV3.out _ (Turns.refl _ _)⟩
            refine wpAnyH_take (i := 5) (v := ?_) rfl (by kernel_rfl) (by kernel_rfl) (by kernel_rfl) (fun _ _ _ h => h) (Or.inl ⟨by rfl, ?_⟩) (by assumption) ?_
            rotate_left
            · (intro w' hSw; (try dsimp only at hSw); first | (go_simp; done) | (go_simp; with_reducible rfl))
            try simp only [Act.put, List.getElem_toArray, List.getElem_cons_zero, List.getElem_cons_succ, List.setIfInBounds_toArray, List.set_cons_zero, List.set_cons_succ]
            refine wpAnyH_take (i := 6) (v := ?_) rfl (by kernel_rfl) (by kernel_rfl) (by kernel_rfl) (fun _ _ _ h => h) (Or.inl ⟨by rfl, ?_⟩) (by assumption) ?_
            rotate_left
            · (intro w' hSw; (try dsimp only at hSw); first | (go_simp; done) | (go_simp; with_reducible rfl))
            try simp only [Act.put, List.getElem_toArray, List.getElem_cons_zero, List.getElem_cons_succ, List.setIfInBounds_toArray, List.set_cons_zero, List.set_cons_succ]
            refine wpAnyH_take (i := 11) (v := ?_) rfl (by kernel_rfl) (by kernel_rfl) (by kernel_rfl) (fun _ _ _ h => h) (Or.inl ⟨by rfl, ?_⟩) (by assumption) ?_
            rotate_left
            · (intro w' hSw; (try dsimp only at hSw); first | (go_simp; done) | (go_simp; with_reducible rfl))
            try simp only [Act.put, List.getElem_toArray, List.getElem_cons_zero, List.getElem_cons_succ, List.setIfInBounds_toArray, List.set_cons_zero, List.set_cons_succ]
            have hz0 : (s.extract 0 k ++ cs ++ s.extract (k + 1) s.size).size ≤ 6000 := by have := Hc1.out; simp only [ByteArray.size_append, ByteArray.size_extract]; omega
            have hz1 : (s.extract 0 k ++ s.extract (k + 1) s.size).size ≤ 6000 := by simp only [ByteArray.size_append, ByteArray.size_extract]; omega
            have hz2 : (s.extract 0 k ++ cs ++ s.extract k s.size).size ≤ 6000 := by have := Hc1.out; simp only [ByteArray.size_append, ByteArray.size_extract]; omega
            have hz3 : (s.extract 0 k).size ≤ 6000 := by simp only [ByteArray.size_extract]; omega
            have hz4 : (s ++ cs).size ≤ 6000 := by have := Hc1.out; simp only [ByteArray.size_append]; omega
            generalize s.extract 0 k ++ cs ++ s.extract (k + 1) s.size = x0 at hz0 ⊢
            generalize s.extract 0 k ++ s.extract (k + 1) s.size = x1 at hz1 ⊢
            generalize s.extract 0 k ++ cs ++ s.extract k s.size = x2 at hz2 ⊢
            generalize s ++ cs = x4 at hz4 ⊢
            have RS : Row (wc3.alloc (.cells #[.string x0, .string x1, .string x2, .string (s.extract 0 k), .string x4] 9)) wc3.heap.size 9 [.string x0, .string x1, .string x2, .string (s.extract 0 k), .string x4] := heap_new rfl
            have hcell : ∃ t : ByteArray, (wc3.alloc (.cells #[.string x0, .string x1, .string x2, .string (s.extract 0 k), .string x4] 9)).cell? ⟨wc3.heap.size, m, none⟩ = some (.string t) ∧ t.size ≤ 6000 := by
              rcases (by omega : m = 0 ∨ m = 1 ∨ m = 2 ∨ m = 3 ∨ m = 4) with rfl | rfl | rfl | rfl | rfl
              · exact ⟨_, RS.cell _ _ rfl, hz0⟩
              · exact ⟨_, RS.cell _ _ rfl, hz1⟩
              · exact ⟨_, RS.cell _ _ rfl, hz2⟩
              · exact ⟨_, RS.cell _ _ rfl, hz3⟩
              · exact ⟨_, RS.cell _ _ rfl, hz4⟩
            obtain ⟨t, hcell, ht⟩ := hcell
            have TP3 : Turns (fun _ => False) wc3 (wc3.alloc (.cells #[.string x0, .string x1, .string x2, .string (s.extract 0 k), .string x4] 9)) := (Turns.refl _ _).alloc _
            refine wpAnyH_ready (rs := [39]) (by kernel_rfl) (by simp) ?_
            refine AllReadyH.cons rfl (fun K hK => ?_) AllReadyH.nil
            have Hcell := Lib.hid hcell
            clear hcell hz0 hz1 hz2 hz3 hz4 hHeld
            go_simp
            refine hK.out _ _ ⟨TP3, HCV3.out _ TP3⟩ (fun hHeld => ?_)
            clear hK K
            try simp only [Act.put, List.getElem_toArray, List.getElem_cons_zero, List.getElem_cons_succ, List.setIfInBounds_toArray, List.set_cons_zero, List.set_cons_succ]
            have i0 : (0 : Int) ≤ (m : Int) := by omega
            have i1 : (m : Int) < 5 := by omega
            refine wpAnyH_take (i := 44) (v := ?_) rfl (by kernel_rfl) (by kernel_rfl) (by kernel_rfl) (fun _ _ _ h => h) (Or.inl ⟨by rfl, ?_⟩) (by assumption) ?_
            rotate_left
            · (intro w' hSw; (try dsimp only at hSw); first | (go_simp; done) | (go_simp; with_reducible rfl))
            try simp only [Act.put, List.getElem_toArray, List.getElem_cons_zero, List.getElem_cons_succ, List.setIfInBounds_toArray, List.set_cons_zero, List.set_cons_succ]
            have hcell := Hcell.out
            refine wpAnyH_ready (rs := [45]) (by kernel_rfl) (by simp) ?_
            refine AllReadyH.cons rfl (fun K hK => ?_) AllReadyH.nil
            clear hHeld
            go_simp
            refine hK.out _ _ ⟨TP3, HCV3.out _ TP3⟩ (fun hHeld => ?_)
            clear hK K hHeld
            try simp only [Act.put, List.getElem_toArray, List.getElem_cons_zero, List.getElem_cons_succ, List.setIfInBounds_toArray, List.set_cons_zero, List.set_cons_succ]
            refine wpAnyH_ready (rs := [46]) (by kernel_rfl) (by simp) ?_
            refine AllReadyH.cons rfl (fun K hK => ?_) AllReadyH.nil
            go_simp
            refine hK.out _ _ ⟨TP3, HCV3.out _ TP3⟩ (fun hHeld => ?_)
            clear hK K hHeld
            try simp only [Act.put, List.getElem_toArray, List.getElem_cons_zero, List.getElem_cons_succ, List.setIfInBounds_toArray, List.set_cons_zero, List.set_cons_succ]
            refine wpAnyH_done (by kernel_rfl) ?_ _
            have HTF := Lib.hid (HTC3.out.then TP3)
            clear TP3 RS hcell Hcell i0 i1
            generalize wc3.alloc (.cells #[.string x0, .string x1, .string x2, .string (s.extract 0 k), .string x4] 9) = wf at HTF ⊢
            clear n1 n2 n3 n4 n5 hkw k0 k1 k2 k3 k4 k5 k6 hmm hm
            obtain ⟨gq, ev, av, LL, fs, D1, D2⟩ := dec_two (nums t)
            have HD1 := Lib.hid D1
            have HD2 := Lib.hid D2
            obtain ⟨a5, c5, w5, hcv, IB5, T5⟩ := bytes_of t wf
            have HIB5 := Lib.hid IB5
            have HT5 := Lib.hid (HTF.out.then T5)
            clear D1 D2 IB5 T5
            go_wp2_with fail
            refine (HD1.out w5 _ _ _ HIB5.out (by omega)).mono ?_
            rintro e w6 ⟨ao6, c6, rfl, F6, T6⟩
            clear hcv
            obtain ⟨w7, hw7⟩ : ∃ w7, w6.alloc (.cells #[.int .i64 gq, .slice ao6 LL c6] 24) = w7 := ⟨_, rfl⟩
            have R7 : Row w7 w6.heap.size 24 [.int .i64 gq, .slice ao6 LL c6] := by subst hw7; exact heap_new rfl
            have T7 : Turns (fun _ => False) w6 w7 := by subst hw7; exact (Turns.refl _ _).alloc _
            have HR7 := Lib.hid R7
            have HF7 := Lib.hid (F6.later T7)
            have HT7 := Lib.hid ((HT5.out.then T6).then T7)
            obtain ⟨a8, c8, w8, hcv, IB8, T8⟩ := bytes_of t w7
            have HIB8 := Lib.hid IB8
            have HT8 := Lib.hid T8
            have H7 := Lib.hid hw7
            clear T6 F6 R7 T7 IB8 T8
            subst hw7
            go_wp2_with fail
            refine (HD2.out w8 _ _ _ HIB8.out (by omega)).mono ?_
            rintro e w9 ⟨ao9, c9, rfl, F9, T9⟩
            clear hcv
            obtain ⟨w10, hw10⟩ : ∃ w10, w9.alloc (.cells #[.int .i64 gq, .slice ao9 LL c9] 24) = w10 := ⟨_, rfl⟩
            have R10 : Row w10 w9.heap.size 24 [.int .i64 gq, .slice ao9 LL c9] := by subst hw10; exact heap_new rfl
            have T10 : Turns (fun _ => False) w9 w10 := by subst hw10; exact (Turns.refl _ _).alloc _
            have HR10 := Lib.hid R10
            have HF10 := Lib.hid (F9.later T10)
            have HT10 := Lib.hid ((HT8.out.then T9).then T10)
            have H10 := Lib.hid hw10
            clear T9 F9 R10 T10 hw10
            go_wp2_with fail
            rw [H10.out]
            refine (told_any _).mono ?_
            rintro e w11 ⟨rfl, T11⟩
            have TT := HT10.out.then T11
            have a0 := (HR7.out.later TT (fun x => x)).cell 0 _ rfl
            have a1 := (HR7.out.later TT (fun x => x)).cell 1 _ rfl
            have b0 := (HR10.out.later T11 (fun x => x)).cell 0 _ rfl
            have b1 := (HR10.out.later T11 (fun x => x)).cell 1 _ rfl
            have CS := same_any gq fs _ _ w11 (HF7.out.later TT) (HF10.out.later T11)
            have HTT := Lib.hid (HT7.out.then TT)
            clear TT T11
            go_wp2_with fail
            refine CS.mono ?_
            rintro e w12 ⟨rfl, T12⟩
            go_wp2_with fail
            go_ret
            exact ⟨rfl, below_of ((HT1.out.then HT3.out).then (HTT.out.then T12))⟩
end Go.Proofs.Ytedgeoigapilnaa
