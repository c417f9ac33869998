/- code: the walk of CodeMays. -/
import Derived.Test.YtedgeoigapilnaaHelp
import Derived.Test.YtedgeoigapilnaaRenc
namespace Go.Proofs.Ytedgeoigapilnaa
open Go.RowKit
set_option linter.unusedSimpArgs false

theorem renc_ok {p : Pr} {v : Value} {w : World} (wg : (Lit.int .i64 p.g).wf = true) (F : Funcs w v p.fs) (h : mayI p = 0) :
    Calls Try.prog 16 #[.agg #[.int .i64 p.g, v]] w fun e w' => e = .returned (.tuple #[.string (strOfNums (encI p)), .int .i64 0]) ∧ Turns (fun _ => False) w w' :=
  (rencode_any p v w wg F).mono fun _ _ ⟨t, _, h'⟩ => ⟨h' h, t⟩
theorem renc_bad {p : Pr} {v : Value} {w : World} (wg : (Lit.int .i64 p.g).wf = true) (F : Funcs w v p.fs) (h : mayI p ≠ 0) :
    Calls Try.prog 16 #[.agg #[.int .i64 p.g, v]] w fun e w' => e = .returned (.tuple #[.string ⟨#[]⟩, .int .i64 1]) ∧ Turns (fun _ => False) w w' :=
  (rencode_any p v w wg F).mono fun _ _ ⟨t, h', _⟩ => ⟨h' h, t⟩
/-- Both Encodes, in one form: the bytes, the string, the number. -/
theorem enc_two {p : Pr} {v : Value} {w0 : World} (wg : (Lit.int .i64 p.g).wf = true) (F : Funcs w0 v p.fs) : ∃ (zs : List Int) (ev : Int) (L : Nat),
    (∀ w, Turns (fun _ => False) w0 w → Calls Try.prog 11 #[.agg #[.int .i64 p.g, v]] w fun e w' => ∃ a cap, e = .returned (.tuple #[.slice a L cap, .int .i64 ev]) ∧ IsBytes w' a L zs ∧ Turns (fun _ => False) w w') ∧
    (∀ w, Turns (fun _ => False) w0 w → Calls Try.prog 16 #[.agg #[.int .i64 p.g, v]] w fun e w' => e = .returned (.tuple #[.string (strOfNums zs), .int .i64 ev]) ∧ Turns (fun _ => False) w w') := by
  by_cases h : mayI p = 0
  · exact ⟨encI p, 0, _, fun w t => (enc_ok wg (F.later t) h).mono fun _ _ ⟨a, cap, h1, h2, _, _, _, h3⟩ => ⟨a, cap, h1, h2, h3⟩, fun w t => (renc_ok wg (F.later t) h)⟩
  · exact ⟨[], 1, 0, fun w t => (enc_bad wg (F.later t) h).mono fun _ _ ⟨h1, h2⟩ => ⟨none, 0, h1, ⟨rfl, fun z hz => by simp at hz, fun j hj => by omega⟩, h2⟩, fun w t => (renc_bad wg (F.later t) h)⟩

set_option maxHeartbeats 4000000 in
set_option maxRecDepth 100000 in
theorem mays_walk {w : World} (v : Value) (p : Pr) (h : IsProg w v p) :
    Calls Try.prog 8 #[v] w fun e w' => e = .returned (.bool true) ∧ Below w.heap.size w w' := by
  obtain ⟨fv, rfl, wg, F⟩ := h
  obtain ⟨w1, hw1⟩ : ∃ w1, w.alloc (.cells #[.int .i64 p.g, fv] 24) = w1 := ⟨_, rfl⟩
  have R1 : Row w1 w.heap.size 24 [.int .i64 p.g, fv] := by subst hw1; exact heap_new rfl
  have T1 : Turns (fun _ => False) w w1 := by subst hw1; exact (Turns.refl _ _).alloc _
  have F1 := F.later T1
  obtain ⟨hmax, ao, cap, hfv, _⟩ := F
  have hLL : p.fs.length = p.fs.length := rfl
  generalize p.fs.length = N at hfv
  subst hfv
  obtain ⟨zs, ev, L, E1, E2⟩ := enc_two wg F1
  obtain ⟨mm, M1, M2⟩ : ∃ mm : Int, (∀ w', Turns (fun _ => False) w1 w' → Calls Try.prog 12 #[.agg #[.int .i64 p.g, .slice ao N cap]] w' fun e w'' => e = .returned (.int .i64 mm) ∧ Turns (fun _ => False) w' w'') ∧
      (∀ w', Turns (fun _ => False) w1 w' → Calls Try.prog 15 #[.agg #[.int .i64 p.g, .slice ao N cap]] w' fun e w'' => e = .returned (.int .i64 mm) ∧ Turns (fun _ => False) w' w'') :=
    ⟨mayI p, fun w' t => may_any p _ w' wg (F1.later t), fun w' t => rmay_any p _ w' wg (F1.later t)⟩
  have HF := Lib.hid F1
  have HT1 := Lib.hid T1
  have HR1 := Lib.hid R1
  have H1 := Lib.hid hw1
  have HE1 := Lib.hid E1
  have HE2 := Lib.hid E2
  have HM1 := Lib.hid M1
  have HM2 := Lib.hid M2
  clear hw1 T1 R1 hmax hLL wg E1 E2 M1 M2 F1
  generalize p.g = g at *
  go_enter Try.func8, Try.ntmps8
  go_wp2_with fail
  rw [H1.out]
  refine (great_any g p.fs _ _ HF.out).mono ?_
  rintro e w2 ⟨⟨b, rfl⟩, T2⟩
  cases b with
  | true =>
    go_wp2_with fail
    refine (told_any _).mono ?_
    rintro e w3 ⟨rfl, T3⟩
    go_wp2_with fail
    go_ret
    exact ⟨rfl, below_of ((HT1.out.then T2).then T3)⟩
  | false =>
    have c0 := (HR1.out.later T2 (fun x => x)).cell 0 _ rfl
    have c1 := (HR1.out.later T2 (fun x => x)).cell 1 _ rfl
    have HT2 := Lib.hid T2
    clear T2
    go_wp2_with fail
    refine (HE1.out w2 HT2.out).mono ?_
    rintro e w3 ⟨a, bc, rfl, IB, T3⟩
    have c0 := T3.cell c0 (fun x => x)
    have c1 := T3.cell c1 (fun x => x)
    have HIB := Lib.hid IB
    have HT3 := Lib.hid (HT2.out.then T3)
    clear T3 IB
    go_wp2_with fail
    refine (HE2.out w3 HT3.out).mono ?_
    rintro e w4 ⟨rfl, T4⟩
    have HIB4 := Lib.hid (HIB.out.later T4 (fun _ _ _ x => x))
    have c0 := T4.cell c0 (fun x => x)
    have c1 := T4.cell c1 (fun x => x)
    have HT4 := Lib.hid (HT3.out.then T4)
    clear T4
    go_wp2_with fail
    have hS : ∀ w', Turns (fun _ => False) w4 w' → (w'.cell? ⟨w.heap.size, 0, none⟩ = some (.int .i64 g) ∧ w'.cell? ⟨w.heap.size, 1, none⟩ = some (.slice ao N cap) ∧ (convert 27 9 (.slice a L bc)).run Try.prog w' = .ok (.string (strOfNums zs)) w' ∧ Turns (fun _ => False) w4 w') :=
      fun w' t => ⟨t.cell c0 (fun x => x), t.cell c1 (fun x => x), run_string (HIB4.out.later t (fun _ _ _ x => x)) bc, t⟩
    have HS := Lib.hid hS
    clear hS c0 c1
    refine wp_region_held_drew (S := (fun w' => (w'.cell? ⟨w.heap.size, 0, none⟩ = some (.int .i64 g) ∧ w'.cell? ⟨w.heap.size, 1, none⟩ = some (.slice ao N cap) ∧ (convert 27 9 (.slice a L bc)).run Try.prog w' = .ok (.string (strOfNums zs)) w' ∧ Turns (fun _ => False) w4 w'))) (by kernel_rfl) ?_ (fun hHeld => ?_)
    · exact HS.out _ (Turns.refl _ w4).drew
    refine wpAnyH_ready (rs := [0]) (by kernel_rfl) (by simp) ?_
    refine AllReadyH.cons rfl (fun K hK => ?_) AllReadyH.nil
    have hT := Lib.hid hHeld.2.2.2
    have k0 := hHeld.1
    have k1 := hHeld.2.1
    clear hHeld
    go_simp
    refine (told_any _).mono ?_
    rintro e w5 ⟨rfl, T5⟩
    refine hK.out _ _ (HS.out _ (hT.out.then T5)) (fun hHeld => ?_)
    clear hK K hT T5 k0 k1
    try simp only [Act.put, List.getElem_toArray, List.getElem_cons_zero, List.getElem_cons_succ, List.setIfInBounds_toArray, List.set_cons_zero, List.set_cons_succ]
    refine wpAnyH_take (i := 1) (v := ?_) rfl (by kernel_rfl) (by kernel_rfl) (by kernel_rfl) (fun _ _ _ h => h) (Or.inl ⟨by rfl, ?_⟩) (by assumption) ?_
    rotate_left
    · (intro w' hSw; (try dsimp only at hSw); first | (go_simp; done) | (go_simp; with_reducible rfl))
    try simp only [Act.put, List.getElem_toArray, List.getElem_cons_zero, List.getElem_cons_succ, List.setIfInBounds_toArray, List.set_cons_zero, List.set_cons_succ]
    refine wpAnyH_take (i := 2) (v := ?_) rfl (by kernel_rfl) (by kernel_rfl) (by kernel_rfl) (fun _ _ _ h => h) (Or.inl ⟨by rfl, ?_⟩) (by assumption) ?_
    rotate_left
    · (intro w' hSw; (try dsimp only at hSw); first | (go_simp; done) | (go_simp; with_reducible rfl))
    try simp only [Act.put, List.getElem_toArray, List.getElem_cons_zero, List.getElem_cons_succ, List.setIfInBounds_toArray, List.set_cons_zero, List.set_cons_succ]
    refine wpAnyH_take (i := 4) (v := ?_) rfl (by kernel_rfl) (by kernel_rfl) (by kernel_rfl) (fun _ _ _ h => h) (Or.inl ⟨by rfl, ?_⟩) (by assumption) ?_
    rotate_left
    · (intro w' hSw; (try dsimp only at hSw); first | (go_simp; done) | (go_simp; with_reducible rfl))
    try simp only [Act.put, List.getElem_toArray, List.getElem_cons_zero, List.getElem_cons_succ, List.setIfInBounds_toArray, List.set_cons_zero, List.set_cons_succ]
    refine wpAnyH_ready (rs := [3]) (by kernel_rfl) (by simp) ?_
    refine AllReadyH.cons rfl (fun K hK => ?_) AllReadyH.nil
    have hT := Lib.hid hHeld.2.2.2
    have k0 := hHeld.1
    have k1 := hHeld.2.1
    clear hHeld
    go_simp
    refine (HM1.out _ (HT4.out.then hT.out)).mono ?_
    rintro e w5 ⟨rfl, T5⟩
    refine hK.out _ _ (HS.out _ (hT.out.then T5)) (fun hHeld => ?_)
    clear hK K hT T5 k0 k1
    try simp only [Act.put, List.getElem_toArray, List.getElem_cons_zero, List.getElem_cons_succ, List.setIfInBounds_toArray, List.set_cons_zero, List.set_cons_succ]
    refine wpAnyH_ready (rs := [5]) (by kernel_rfl) (by simp) ?_
    refine AllReadyH.cons rfl (fun K hK => ?_) AllReadyH.nil
    have hT := Lib.hid hHeld.2.2.2
    have k0 := hHeld.1
    have k1 := hHeld.2.1
    clear hHeld
    go_simp
    refine (HM2.out _ (HT4.out.then hT.out)).mono ?_
    rintro e w5 ⟨rfl, T5⟩
    refine hK.out _ _ (HS.out _ (hT.out.then T5)) (fun hHeld => ?_)
    clear hK K hT T5 k0 k1
    try simp only [Act.put, List.getElem_toArray, List.getElem_cons_zero, List.getElem_cons_succ, List.setIfInBounds_toArray, List.set_cons_zero, List.set_cons_succ]
    refine wpAnyH_take (i := 6) (v := ?_) rfl (by kernel_rfl) (by kernel_rfl) (by kernel_rfl) (fun _ _ _ h => h) (Or.inl ⟨by rfl, ?_⟩) (by assumption) ?_
    rotate_left
    · (intro w' hSw; (try dsimp only at hSw); first | (go_simp; done) | (go_simp; with_reducible rfl))
    try simp only [Act.put, List.getElem_toArray, List.getElem_cons_zero, List.getElem_cons_succ, List.setIfInBounds_toArray, List.set_cons_zero, List.set_cons_succ]
    refine wpAnyH_take (i := 7) (v := ?_) rfl (by kernel_rfl) (by kernel_rfl) (by kernel_rfl) (fun _ _ _ h => h) (Or.inl ⟨by rfl, ?_⟩) (by assumption) ?_
    rotate_left
    · (intro w' hSw; (try dsimp only at hSw); first | (go_simp; done) | (go_simp; with_reducible rfl))
    try simp only [Act.put, List.getElem_toArray, List.getElem_cons_zero, List.getElem_cons_succ, List.setIfInBounds_toArray, List.set_cons_zero, List.set_cons_succ]
    refine wpAnyH_take (i := 8) (v := ?_) rfl (by kernel_rfl) (by kernel_rfl) (by kernel_rfl) (fun _ _ _ h => h) (Or.inl ⟨by rfl, ?_⟩) (by assumption) ?_
    rotate_left
    · (intro w' hSw; (try dsimp only at hSw); first | (go_simp; done) | (go_simp; with_reducible rfl))
    try simp only [Act.put, List.getElem_toArray, List.getElem_cons_zero, List.getElem_cons_succ, List.setIfInBounds_toArray, List.set_cons_zero, List.set_cons_succ]
    refine wpAnyH_take (i := 9) (v := ?_) rfl (by kernel_rfl) (by kernel_rfl) (by kernel_rfl) (fun _ _ _ h => h) (Or.inl ⟨by rfl, ?_⟩) (by assumption) ?_
    rotate_left
    · (intro w' hSw; (try dsimp only at hSw); first | (go_simp; done) | (go_simp; with_reducible rfl))
    try simp only [Act.put, List.getElem_toArray, List.getElem_cons_zero, List.getElem_cons_succ, List.setIfInBounds_toArray, List.set_cons_zero, List.set_cons_succ]
    refine wpAnyH_take (i := 10) (v := ?_) rfl (by kernel_rfl) (by kernel_rfl) (by kernel_rfl) (fun _ _ _ h => h) (Or.inl ⟨by rfl, ?_⟩) (by assumption) ?_
    rotate_left
    · (intro w' hSw; (try dsimp only at hSw); first | (go_simp; done) | (go_simp; with_reducible rfl))
    try simp only [Act.put, List.getElem_toArray, List.getElem_cons_zero, List.getElem_cons_succ, List.setIfInBounds_toArray, List.set_cons_zero, List.set_cons_succ]
    refine wpAnyH_take (i := 11) (v := ?_) rfl (by kernel_rfl) (by kernel_rfl) (by kernel_rfl) (fun _ _ _ h => h) (Or.inl ⟨by rfl, ?_⟩) (by assumption) ?_
    rotate_left
    · (intro w' hSw; (try dsimp only at hSw); first | (go_simp; done) | (go_simp; with_reducible rfl))
    try simp only [Act.put, List.getElem_toArray, List.getElem_cons_zero, List.getElem_cons_succ, List.setIfInBounds_toArray, List.set_cons_zero, List.set_cons_succ]
    refine wpAnyH_take (i := 12) (v := ?_) rfl (by kernel_rfl) (by kernel_rfl) (by kernel_rfl) (fun _ _ _ h => h) (Or.inl ⟨by rfl, ?_⟩) (by assumption) ?_
    rotate_left
    · (intro w' hSw; (try dsimp only at hSw); first | (go_simp; done) | (go_simp; with_reducible rfl))
    try simp only [Act.put, List.getElem_toArray, List.getElem_cons_zero, List.getElem_cons_succ, List.setIfInBounds_toArray, List.set_cons_zero, List.set_cons_succ]
    refine wpAnyH_take (i := 13) (v := ?_) rfl (by kernel_rfl) (by kernel_rfl) (by kernel_rfl) (fun _ _ _ h => h) (Or.inl ⟨by rfl, ?_⟩) (by assumption) ?_
    rotate_left
    · (intro w' hSw; (try dsimp only at hSw); first | (go_simp; done) | (go_simp; with_reducible rfl))
    try simp only [Act.put, List.getElem_toArray, List.getElem_cons_zero, List.getElem_cons_succ, List.setIfInBounds_toArray, List.set_cons_zero, List.set_cons_succ]
    refine wpAnyH_take (i := 14) (v := ?_) rfl (by kernel_rfl) (by kernel_rfl) (by kernel_rfl) (fun _ _ _ h => h) (Or.inl ⟨by rfl, ?_⟩) (by assumption) ?_
    rotate_left
    · (intro w' hSw; (try dsimp only at hSw); first | (go_simp; done) | (go_simp; with_reducible rfl))
    try simp only [Act.put, List.getElem_toArray, List.getElem_cons_zero, List.getElem_cons_succ, List.setIfInBounds_toArray, List.set_cons_zero, List.set_cons_succ]
    refine wpAnyH_take (i := 15) (v := ?_) rfl (by kernel_rfl) (by kernel_rfl) (by kernel_rfl) (fun _ _ _ h => h) (Or.inl ⟨by rfl, ?_⟩) (by assumption) ?_
    rotate_left
    · (intro w' hSw; (try dsimp only at hSw); first | (go_simp; done) | (go_simp; with_reducible rfl))
    try simp only [Act.put, List.getElem_toArray, List.getElem_cons_zero, List.getElem_cons_succ, List.setIfInBounds_toArray, List.set_cons_zero, List.set_cons_succ]
    refine wpAnyH_take (i := 16) (v := ?_) rfl (by kernel_rfl) (by kernel_rfl) (by kernel_rfl) (fun _ _ _ h => h) (Or.inl ⟨by rfl, ?_⟩) (by assumption) ?_
    rotate_left
    · (intro w' hSw; (try dsimp only at hSw); first | (go_simp; done) | (go_simp; with_reducible rfl))
    try simp only [Act.put, List.getElem_toArray, List.getElem_cons_zero, List.getElem_cons_succ, List.setIfInBounds_toArray, List.set_cons_zero, List.set_cons_succ]
    refine wpAnyH_take (i := 17) (v := ?_) rfl (by kernel_rfl) (by kernel_rfl) (by kernel_rfl) (fun _ _ _ h => h) (Or.inl ⟨by rfl, ?_⟩) (by assumption) ?_
    rotate_left
    · (intro w' hSw; (try dsimp only at hSw); first | (go_simp; done) | (go_simp; with_reducible rfl))
    try simp only [Act.put, List.getElem_toArray, List.getElem_cons_zero, List.getElem_cons_succ, List.setIfInBounds_toArray, List.set_cons_zero, List.set_cons_succ]
    refine wpAnyH_take (i := 18) (v := ?_) rfl (by kernel_rfl) (by kernel_rfl) (by kernel_rfl) (fun _ _ _ h => h) (Or.inl ⟨by rfl, ?_⟩) (by assumption) ?_
    rotate_left
    · (intro w' hSw; (try dsimp only at hSw); first | (go_simp; done) | (go_simp; with_reducible rfl))
    try simp only [Act.put, List.getElem_toArray, List.getElem_cons_zero, List.getElem_cons_succ, List.setIfInBounds_toArray, List.set_cons_zero, List.set_cons_succ]
    refine wpAnyH_take (i := 19) (v := ?_) rfl (by kernel_rfl) (by kernel_rfl) (by kernel_rfl) (fun _ _ _ h => h) (Or.inl ⟨by rfl, ?_⟩) (by assumption) ?_
    rotate_left
    · (intro w' hSw; (try dsimp only at hSw); first | (go_simp; done) | (go_simp; with_reducible rfl))
    try simp only [Act.put, List.getElem_toArray, List.getElem_cons_zero, List.getElem_cons_succ, List.setIfInBounds_toArray, List.set_cons_zero, List.set_cons_succ]
    refine wpAnyH_done (by kernel_rfl) ?_ _
    have HTF := Lib.hid (HT4.out.then hHeld.2.2.2)
    clear hHeld
    go_wp2_with fail
    go_ret
    exact ⟨rfl, below_of (HT1.out.then HTF.out)⟩
end Go.Proofs.Ytedgeoigapilnaa
