/- code: the walk of CodeBounds. Printed by wip/tools/bounds_gen.py. -/
import Derived.Test.YtedgeoigapilnaaStrs
import Derived.Test.YtedgeoigapilnaaMade
namespace Go.Proofs.Ytedgeoigapilnaa
open Go.RowKit
set_option linter.unusedSimpArgs false

theorem enc_num {p : Pr} {v : Value} {w : World} {z : Int} (wg : (Lit.int .i64 p.g).wf = true) (F : Funcs w v p.fs) (hz : z = if mayI p = 0 then 0 else 1) :
    Calls Try.prog 11 #[.agg #[.int .i64 p.g, v]] w fun e w' => ∃ a L cap, e = .returned (.tuple #[.slice a L cap, .int .i64 z]) ∧ Turns (fun _ => False) w w' := by
  subst hz
  by_cases h : mayI p = 0
  · rw [if_pos h]
    exact (enc_ok wg F h).mono fun _ _ ⟨a, cap, h1, _, _, _, _, h3⟩ => ⟨a, _, cap, h1, h3⟩
  · rw [if_neg h]
    exact (enc_bad wg F h).mono fun _ _ ⟨h1, h2⟩ => ⟨none, 0, 0, h1, h2⟩

set_option maxHeartbeats 8000000 in
set_option maxRecDepth 100000 in
theorem bounds_walk {w : World} (which : Int) (_w1 : (Lit.int .i64 which).wf = true) (n : Int) (_w2 : (Lit.int .i64 n).wf = true) (globals : Int) (_w3 : (Lit.int .i64 globals).wf = true)
    (funcs : Int) (_w4 : (Lit.int .i64 funcs).wf = true) (size : Int) (_w5 : (Lit.int .i64 size).wf = true) :
    Calls Try.prog 4 #[.int .i64 which, .int .i64 n, .int .i64 globals, .int .i64 funcs, .int .i64 size] w fun e w' => e = .returned (.bool true) ∧ Below w.heap.size w w' := by
  obtain ⟨g, hg, e1⟩ := rem_nat64 globals 33 (by omega) (by omega)
  obtain ⟨f, hf, e2⟩ := rem_nat64 funcs 16 (by omega) (by omega)
  obtain ⟨s, hs, e3⟩ := rem_nat64 size 64 (by omega) (by omega)
  obtain ⟨x, hx, e4⟩ := rem_nat64 n 300 (by omega) (by omega)
  obtain ⟨m, hm, e5⟩ := rem_nat64 which 7 (by omega) (by omega)
  have e1 : wrap64 ((IntKind.u64.wrap globals).tmod 33) = (g : Int) := e1
  have e2 : wrap64 ((IntKind.u64.wrap funcs).tmod 16) = (f : Int) := e2
  have e3 : wrap64 ((IntKind.u64.wrap size).tmod 64) = (s : Int) := e3
  have e4 : wrap64 ((IntKind.u64.wrap n).tmod 300) = (x : Int) := e4
  have e5 : wrap64 ((IntKind.u64.wrap which).tmod 7) = (m : Int) := e5
  obtain ⟨N, hN⟩ : ∃ N : Nat, N = f + 1 := ⟨_, rfl⟩
  obtain ⟨K, hK0⟩ : ∃ K : Nat, K = s + 1 := ⟨_, rfl⟩
  have hNi : (1 : Int) + (f : Int) = (N : Int) := by omega
  have hKi : (1 : Int) + (s : Int) = (K : Int) := by omega
  obtain ⟨y, hy⟩ : ∃ y, bIn m ((x : Int) - 20) = y := ⟨_, rfl⟩
  obtain ⟨most, hmost⟩ : ∃ t, bMost m (g : Int) (N : Int) (K : Int) = t := ⟨_, rfl⟩
  obtain ⟨w1, hw1⟩ : ∃ w1, (w.alloc (.cells (ic (bIn m ((x : Int) - 20))).toArray 37)).alloc (.cells #[.int .i64 g, .slice none 0 0] 24) = w1 := ⟨_, rfl⟩
  have HRI : Hid (Row w1 w.heap.size 37 (ic y)) := Lib.hid (by subst hw1; rw [← hy]; exact Row.alloc (heap_new rfl) _)
  have HRP : Hid (Row w1 (w.heap.size + 1) 24 [.int .i64 g, .slice none 0 0]) := Lib.hid (by subst hw1; exact heap_new (by simp))
  have HT1 : Hid (Turns (fun _ => False) w w1) := Lib.hid (by subst hw1; exact ((Turns.refl _ _).alloc _).alloc _)
  have HZ1 : Hid (w1.heap.size = w.heap.size + 2) := Lib.hid (by subst hw1; simp)
  have HW : Hid (0 ≤ wrongI (g : Int) (N : Int) (K : Int) y ↔ ((x : Int) - 20 < 0 ∨ most ≤ (x : Int) - 20)) := Lib.hid (by rw [← hy, ← hmost]; exact bIn_wrong m hm _ _ _ _)
  have HN := Lib.hid hN
  have HK0 := Lib.hid hK0
  clear hN hK0
  rcases (by omega : m = 0 ∨ m = 1 ∨ m = 2 ∨ m = 3 ∨ m = 4 ∨ m = 5 ∨ m = 6) with rfl | rfl | rfl | rfl | rfl | rfl | rfl
  all_goals
    simp only [ic, bIn] at hw1
    simp only [bMost] at hmost
    have HY := Lib.hid hy
    have HW1 := Lib.hid hw1
    have HM := Lib.hid hmost
    clear hy hw1 hmost
    go_enter Try.func4, Try.ntmps4
    go_wp2_with fail
    rw [HW1.out]
    simp only [e1, e2, e3, e4]
    clear _w1 _w2 _w3 _w4 _w5 e1 e2 e3 e4 e5 HW1 hm
    go_loopw [18] (fun kv wr => ∃ (j : Nat) (bs : List Nat) (ov : Value), j ≤ N ∧ kv = .int .i64 (j : Int) ∧ Hid (bs.length = j) ∧ Row wr (w.heap.size + 1) 24 [.int .i64 g, ov] ∧ Made wr (w.heap.size + 2) K ov bs ∧ Turns (fun x => x = w.heap.size + 1) w1 wr)
      (fun kv _ => N - (intOf kv).toNat)
    case atStart => exact ⟨0, [], _, by omega, rfl, Lib.hid rfl, HRP.out, Made.nil _ _ _, Turns.refl _ _⟩
    case round =>
      clear HRP
      obtain ⟨j, bs, ov, hj, rfl, hbs, P, M, T⟩ := hrel
      obtain ⟨wo, rfl⟩ : ∃ wo : World, wo = wr := ⟨_, rfl⟩
      have HP := Lib.hid P
      have HMd := Lib.hid M
      have HT := Lib.hid T
      clear P M T
      by_cases hjN : j < N
      · go_wp2_with fail
        have hBb : w.heap.size + 2 ≤ wo.drew.heap.size := by have h1 := HT.out.size; have h2 := HZ1.out; show _ ≤ wo.heap.size; omega
        have hnew : wo.drew.heap.size ∉ bs := fun h => by have h1 := (HMd.out.2.1 _ h).2.1.lt; have h2 : wo.drew.heap.size = wo.heap.size := rfl; omega
        have hvb : ov.ownBlock ≠ some wo.drew.heap.size := fun h => by have h1 := View.lt HMd.out.2.2 _ h; have h2 : wo.drew.heap.size = wo.heap.size := rfl; omega
        have Hbs := Lib.hid (And.intro hBb (And.intro hnew hvb))
        clear hBb hnew hvb
        refine wp_region_held_drew (S := (fun _ => True)) (by kernel_rfl) ?_ (fun hHeld => ?_)
        · trivial
        refine wpAnyH_take (i := 0) (v := ?_) rfl (by kernel_rfl) (by kernel_rfl) (by kernel_rfl) (fun _ _ _ h => h) (Or.inl ⟨by rfl, ?_⟩) (by assumption) ?_
        rotate_left
        · (intro w' hSw; (try dsimp only at hSw); first | (go_simp; done) | (go_simp; with_reducible rfl))
        try simp only [Act.put, List.getElem_toArray, List.getElem_cons_zero, List.getElem_cons_succ, List.setIfInBounds_toArray, List.set_cons_zero, List.set_cons_succ]
        refine wpAnyH_take (i := 2) (v := ?_) rfl (by kernel_rfl) (by kernel_rfl) (by kernel_rfl) (fun _ _ _ h => h) (Or.inl ⟨by rfl, ?_⟩) (by assumption) ?_
        rotate_left
        · (intro w' hSw; (try dsimp only at hSw); first | (go_simp; done) | (go_simp; with_reducible rfl))
        try simp only [Act.put, List.getElem_toArray, List.getElem_cons_zero, List.getElem_cons_succ, List.setIfInBounds_toArray, List.set_cons_zero, List.set_cons_succ]
        clear hHeld
        refine wpAnyH_ready (rs := [1, 3]) (by kernel_rfl) (by simp) ?_
        refine AllReadyH.cons rfl (fun K' hK => ?_) (AllReadyH.cons rfl (fun K' hK => ?_) AllReadyH.nil)
        · skip
          have c1 := HP.out.drew.cell 1 _ rfl
          go_simp
          refine hK.out _ _ trivial (fun hHeld => ?_)
          clear hK K' hHeld c1
          try simp only [Act.put, List.getElem_toArray, List.getElem_cons_zero, List.getElem_cons_succ, List.setIfInBounds_toArray, List.set_cons_zero, List.set_cons_succ]
          refine wpAnyH_ready (rs := [3]) (by kernel_rfl) (by simp) ?_
          refine AllReadyH.cons rfl (fun K' hK => ?_) AllReadyH.nil
          refine step_make_insts rfl (.tmp 84) rfl K (by have := HK0.out; omega) rfl ?_
          have RB : Row (wo.drew.alloc (.cells (flat (List.replicate K in0)).toArray 37)) wo.drew.heap.size 37 (flat (List.replicate K in0)) := heap_new rfl
          have TA : Turns (fun _ => False) wo (wo.drew.alloc (.cells (flat (List.replicate K in0)).toArray 37)) := (Turns.refl _ wo).drew.alloc _
          refine hK.out _ _ trivial (fun hHeld => ?_)
          clear hK K' hHeld
          generalize wo.drew.alloc (.cells (flat (List.replicate K in0)).toArray 37) = wa at RB TA ⊢
          generalize wo.drew.heap.size = b at RB Hbs ⊢
          have HRB := Lib.hid RB
          have HTA := Lib.hid TA
          clear RB TA
          simp only [rowOf]
          try simp only [Act.put, List.getElem_toArray, List.getElem_cons_zero, List.getElem_cons_succ, List.setIfInBounds_toArray, List.set_cons_zero, List.set_cons_succ]
          refine wpAnyH_ready (rs := [4]) (by kernel_rfl) (by simp) ?_
          refine AllReadyH.cons rfl (fun K' hK => ?_) AllReadyH.nil
          go_simp
          refine hK.out _ _ trivial (fun hHeld => ?_)
          clear hK K' hHeld
          try simp only [Act.put, List.getElem_toArray, List.getElem_cons_zero, List.getElem_cons_succ, List.setIfInBounds_toArray, List.set_cons_zero, List.set_cons_succ]
          have RX : Row (wa.alloc (.cells #[.slice (some ⟨b, 0, none⟩) K K] 38)) wa.heap.size 38 [rowOf K b] := heap_new rfl
          have RB := HRB.out.alloc (.cells #[.slice (some ⟨b, 0, none⟩) K K] 38)
          have TA := HTA.out.alloc (.cells #[.slice (some ⟨b, 0, none⟩) K K] 38)
          generalize wa.alloc (.cells #[.slice (some ⟨b, 0, none⟩) K K] 38) = wb at RX RB TA ⊢
          generalize wa.heap.size = xb at RX ⊢
          clear HRB HTA wa
          have M6 := HMd.out.later TA (fun _ _ _ x => x)
          refine wpAnyH_ready (rs := [5]) (by kernel_rfl) (by simp) ?_
          refine AllReadyH.cons rfl (fun K' hK => ?_) AllReadyH.nil
          refine step_append_made rfl (.tmp 83) (.tmp 86) rfl (w.heap.size + 2) K ov bs b xb 1 rfl rfl M6 RX RB Hbs.out.1 Hbs.out.2.1 Hbs.out.2.2 (by have := hbs.out; have := HN.out; omega) (by have h1 := TA.size; have h2 := HT.out.size; have h3 := HZ1.out; omega) ?_
          intro v7 w7 M7 G7 L7
          have hov : ov.ownBlock ≠ some (w.heap.size + 1) := fun h => by have := View.low HMd.out.2.2 _ h; omega
          have P7 := (HP.out.later TA (fun x => x)).later G7.turns (fun h => hov h)
          have T7 := ((HT.out.then (TA.mono fun _ x _ => x.elim)).trans (E := fun x => x = w.heap.size + 1) G7.turns (fun j h _ => h) (fun j h h' => by have := View.low HMd.out.2.2 _ h; have := HZ1.out; omega))
          have hv7 : v7.ownBlock ≠ some (w.heap.size + 1) := fun h => by have := View.low M7.2.2 _ h; omega
          obtain ⟨ao7, n7, c7, e7⟩ : ∃ ao n c, v7 = .slice ao n c := by obtain ⟨ao, c, e⟩ := View.val M7.2.2; exact ⟨ao, _, c, e⟩
          subst e7
          have q1 := P7.cell 1 _ rfl
          have f1 := P7.free 1
          have l7 := P7.lt
          refine hK.out _ _ trivial (fun hHeld => ?_)
          clear hK K' RX RB TA M6 L7 G7 hov
          have HP8 := Lib.hid (P7.set 1 (.slice ao7 n7 c7))
          have HM8 := Lib.hid (M7.later ((Turns.refl (fun x => x = w.heap.size + 1) w7).setCell (p := ⟨w.heap.size + 1, 1, none⟩) (Or.inl rfl) (.slice ao7 n7 c7)) (fun g h _ e => by have e : g = w.heap.size + 1 := e; omega))
          have HT8 := Lib.hid (T7.setCell (p := ⟨w.heap.size + 1, 1, none⟩) (Or.inl rfl) (.slice ao7 n7 c7))
          clear P7 T7 M7 hv7
          try simp only [Act.put, List.getElem_toArray, List.getElem_cons_zero, List.getElem_cons_succ, List.setIfInBounds_toArray, List.set_cons_zero, List.set_cons_succ]
          refine wpAnyH_take (i := 6) (v := ?_) rfl (by kernel_rfl) (by kernel_rfl) (by kernel_rfl) (fun _ _ _ h => h) (Or.inl ⟨by rfl, ?_⟩) (by assumption) ?_
          rotate_left
          · (intro w' hSw; (try dsimp only at hSw); first | (go_simp; done) | (go_simp; with_reducible rfl))
          try simp only [Act.put, List.getElem_toArray, List.getElem_cons_zero, List.getElem_cons_succ, List.setIfInBounds_toArray, List.set_cons_zero, List.set_cons_succ]
          clear hHeld
          refine wpAnyH_ready (rs := [7]) (by kernel_rfl) (by simp) ?_
          refine AllReadyH.cons rfl (fun K' hK => ?_) AllReadyH.nil
          go_simp
          refine hK.out _ _ trivial (fun hHeld => ?_)
          clear hK K' hHeld q1 f1 l7
          generalize w7.setCell ⟨w.heap.size + 1, 1, none⟩ (.slice ao7 n7 c7) = w8 at HP8 HM8 HT8 ⊢
          try simp only [Act.put, List.getElem_toArray, List.getElem_cons_zero, List.getElem_cons_succ, List.setIfInBounds_toArray, List.set_cons_zero, List.set_cons_succ]
          refine wpAnyH_done (by kernel_rfl) ?_ _
          go_wp2_with fail
          go_roundw
          case rel =>
            exact ⟨j + 1, bs ++ [b], _, by omega, by go_num, Lib.hid (by rw [List.length_append, hbs.out]; rfl), HP8.out, HM8.out, HT8.out⟩
          case measure => simp [intOf]; omega
        · skip
          refine step_make_insts rfl (.tmp 84) rfl K (by have := HK0.out; omega) rfl ?_
          have RB : Row (wo.drew.alloc (.cells (flat (List.replicate K in0)).toArray 37)) wo.drew.heap.size 37 (flat (List.replicate K in0)) := heap_new rfl
          have TA : Turns (fun _ => False) wo (wo.drew.alloc (.cells (flat (List.replicate K in0)).toArray 37)) := (Turns.refl _ wo).drew.alloc _
          refine hK.out _ _ trivial (fun hHeld => ?_)
          clear hK K' hHeld
          generalize wo.drew.alloc (.cells (flat (List.replicate K in0)).toArray 37) = wa at RB TA ⊢
          generalize wo.drew.heap.size = b at RB Hbs ⊢
          have HRB := Lib.hid RB
          have HTA := Lib.hid TA
          clear RB TA
          simp only [rowOf]
          try simp only [Act.put, List.getElem_toArray, List.getElem_cons_zero, List.getElem_cons_succ, List.setIfInBounds_toArray, List.set_cons_zero, List.set_cons_succ]
          refine wpAnyH_ready (rs := [1, 4]) (by kernel_rfl) (by simp) ?_
          refine AllReadyH.cons rfl (fun K' hK => ?_) (AllReadyH.cons rfl (fun K' hK => ?_) AllReadyH.nil)
          · skip
            have c1 := (HP.out.later HTA.out (fun x => x)).cell 1 _ rfl
            go_simp
            refine hK.out _ _ trivial (fun hHeld => ?_)
            clear hK K' hHeld c1
            try simp only [Act.put, List.getElem_toArray, List.getElem_cons_zero, List.getElem_cons_succ, List.setIfInBounds_toArray, List.set_cons_zero, List.set_cons_succ]
            refine wpAnyH_ready (rs := [4]) (by kernel_rfl) (by simp) ?_
            refine AllReadyH.cons rfl (fun K' hK => ?_) AllReadyH.nil
            go_simp
            refine hK.out _ _ trivial (fun hHeld => ?_)
            clear hK K' hHeld
            try simp only [Act.put, List.getElem_toArray, List.getElem_cons_zero, List.getElem_cons_succ, List.setIfInBounds_toArray, List.set_cons_zero, List.set_cons_succ]
            have RX : Row (wa.alloc (.cells #[.slice (some ⟨b, 0, none⟩) K K] 38)) wa.heap.size 38 [rowOf K b] := heap_new rfl
            have RB := HRB.out.alloc (.cells #[.slice (some ⟨b, 0, none⟩) K K] 38)
            have TA := HTA.out.alloc (.cells #[.slice (some ⟨b, 0, none⟩) K K] 38)
            generalize wa.alloc (.cells #[.slice (some ⟨b, 0, none⟩) K K] 38) = wb at RX RB TA ⊢
            generalize wa.heap.size = xb at RX ⊢
            clear HRB HTA wa
            have M6 := HMd.out.later TA (fun _ _ _ x => x)
            refine wpAnyH_ready (rs := [5]) (by kernel_rfl) (by simp) ?_
            refine AllReadyH.cons rfl (fun K' hK => ?_) AllReadyH.nil
            refine step_append_made rfl (.tmp 83) (.tmp 86) rfl (w.heap.size + 2) K ov bs b xb 1 rfl rfl M6 RX RB Hbs.out.1 Hbs.out.2.1 Hbs.out.2.2 (by have := hbs.out; have := HN.out; omega) (by have h1 := TA.size; have h2 := HT.out.size; have h3 := HZ1.out; omega) ?_
            intro v7 w7 M7 G7 L7
            have hov : ov.ownBlock ≠ some (w.heap.size + 1) := fun h => by have := View.low HMd.out.2.2 _ h; omega
            have P7 := (HP.out.later TA (fun x => x)).later G7.turns (fun h => hov h)
            have T7 := ((HT.out.then (TA.mono fun _ x _ => x.elim)).trans (E := fun x => x = w.heap.size + 1) G7.turns (fun j h _ => h) (fun j h h' => by have := View.low HMd.out.2.2 _ h; have := HZ1.out; omega))
            have hv7 : v7.ownBlock ≠ some (w.heap.size + 1) := fun h => by have := View.low M7.2.2 _ h; omega
            obtain ⟨ao7, n7, c7, e7⟩ : ∃ ao n c, v7 = .slice ao n c := by obtain ⟨ao, c, e⟩ := View.val M7.2.2; exact ⟨ao, _, c, e⟩
            subst e7
            have q1 := P7.cell 1 _ rfl
            have f1 := P7.free 1
            have l7 := P7.lt
            refine hK.out _ _ trivial (fun hHeld => ?_)
            clear hK K' RX RB TA M6 L7 G7 hov
            have HP8 := Lib.hid (P7.set 1 (.slice ao7 n7 c7))
            have HM8 := Lib.hid (M7.later ((Turns.refl (fun x => x = w.heap.size + 1) w7).setCell (p := ⟨w.heap.size + 1, 1, none⟩) (Or.inl rfl) (.slice ao7 n7 c7)) (fun g h _ e => by have e : g = w.heap.size + 1 := e; omega))
            have HT8 := Lib.hid (T7.setCell (p := ⟨w.heap.size + 1, 1, none⟩) (Or.inl rfl) (.slice ao7 n7 c7))
            clear P7 T7 M7 hv7
            try simp only [Act.put, List.getElem_toArray, List.getElem_cons_zero, List.getElem_cons_succ, List.setIfInBounds_toArray, List.set_cons_zero, List.set_cons_succ]
            refine wpAnyH_take (i := 6) (v := ?_) rfl (by kernel_rfl) (by kernel_rfl) (by kernel_rfl) (fun _ _ _ h => h) (Or.inl ⟨by rfl, ?_⟩) (by assumption) ?_
            rotate_left
            · (intro w' hSw; (try dsimp only at hSw); first | (go_simp; done) | (go_simp; with_reducible rfl))
            try simp only [Act.put, List.getElem_toArray, List.getElem_cons_zero, List.getElem_cons_succ, List.setIfInBounds_toArray, List.set_cons_zero, List.set_cons_succ]
            clear hHeld
            refine wpAnyH_ready (rs := [7]) (by kernel_rfl) (by simp) ?_
            refine AllReadyH.cons rfl (fun K' hK => ?_) AllReadyH.nil
            go_simp
            refine hK.out _ _ trivial (fun hHeld => ?_)
            clear hK K' hHeld q1 f1 l7
            generalize w7.setCell ⟨w.heap.size + 1, 1, none⟩ (.slice ao7 n7 c7) = w8 at HP8 HM8 HT8 ⊢
            try simp only [Act.put, List.getElem_toArray, List.getElem_cons_zero, List.getElem_cons_succ, List.setIfInBounds_toArray, List.set_cons_zero, List.set_cons_succ]
            refine wpAnyH_done (by kernel_rfl) ?_ _
            go_wp2_with fail
            go_roundw
            case rel =>
              exact ⟨j + 1, bs ++ [b], _, by omega, by go_num, Lib.hid (by rw [List.length_append, hbs.out]; rfl), HP8.out, HM8.out, HT8.out⟩
            case measure => simp [intOf]; omega
          · skip
            go_simp
            refine hK.out _ _ trivial (fun hHeld => ?_)
            clear hK K' hHeld
            try simp only [Act.put, List.getElem_toArray, List.getElem_cons_zero, List.getElem_cons_succ, List.setIfInBounds_toArray, List.set_cons_zero, List.set_cons_succ]
            have RX : Row (wa.alloc (.cells #[.slice (some ⟨b, 0, none⟩) K K] 38)) wa.heap.size 38 [rowOf K b] := heap_new rfl
            have RB := HRB.out.alloc (.cells #[.slice (some ⟨b, 0, none⟩) K K] 38)
            have TA := HTA.out.alloc (.cells #[.slice (some ⟨b, 0, none⟩) K K] 38)
            generalize wa.alloc (.cells #[.slice (some ⟨b, 0, none⟩) K K] 38) = wb at RX RB TA ⊢
            generalize wa.heap.size = xb at RX ⊢
            clear HRB HTA wa
            refine wpAnyH_ready (rs := [1]) (by kernel_rfl) (by simp) ?_
            refine AllReadyH.cons rfl (fun K' hK => ?_) AllReadyH.nil
            have c1 := (HP.out.later TA (fun x => x)).cell 1 _ rfl
            go_simp
            refine hK.out _ _ trivial (fun hHeld => ?_)
            clear hK K' hHeld c1
            try simp only [Act.put, List.getElem_toArray, List.getElem_cons_zero, List.getElem_cons_succ, List.setIfInBounds_toArray, List.set_cons_zero, List.set_cons_succ]
            have M6 := HMd.out.later TA (fun _ _ _ x => x)
            refine wpAnyH_ready (rs := [5]) (by kernel_rfl) (by simp) ?_
            refine AllReadyH.cons rfl (fun K' hK => ?_) AllReadyH.nil
            refine step_append_made rfl (.tmp 83) (.tmp 86) rfl (w.heap.size + 2) K ov bs b xb 1 rfl rfl M6 RX RB Hbs.out.1 Hbs.out.2.1 Hbs.out.2.2 (by have := hbs.out; have := HN.out; omega) (by have h1 := TA.size; have h2 := HT.out.size; have h3 := HZ1.out; omega) ?_
            intro v7 w7 M7 G7 L7
            have hov : ov.ownBlock ≠ some (w.heap.size + 1) := fun h => by have := View.low HMd.out.2.2 _ h; omega
            have P7 := (HP.out.later TA (fun x => x)).later G7.turns (fun h => hov h)
            have T7 := ((HT.out.then (TA.mono fun _ x _ => x.elim)).trans (E := fun x => x = w.heap.size + 1) G7.turns (fun j h _ => h) (fun j h h' => by have := View.low HMd.out.2.2 _ h; have := HZ1.out; omega))
            have hv7 : v7.ownBlock ≠ some (w.heap.size + 1) := fun h => by have := View.low M7.2.2 _ h; omega
            obtain ⟨ao7, n7, c7, e7⟩ : ∃ ao n c, v7 = .slice ao n c := by obtain ⟨ao, c, e⟩ := View.val M7.2.2; exact ⟨ao, _, c, e⟩
            subst e7
            have q1 := P7.cell 1 _ rfl
            have f1 := P7.free 1
            have l7 := P7.lt
            refine hK.out _ _ trivial (fun hHeld => ?_)
            clear hK K' RX RB TA M6 L7 G7 hov
            have HP8 := Lib.hid (P7.set 1 (.slice ao7 n7 c7))
            have HM8 := Lib.hid (M7.later ((Turns.refl (fun x => x = w.heap.size + 1) w7).setCell (p := ⟨w.heap.size + 1, 1, none⟩) (Or.inl rfl) (.slice ao7 n7 c7)) (fun g h _ e => by have e : g = w.heap.size + 1 := e; omega))
            have HT8 := Lib.hid (T7.setCell (p := ⟨w.heap.size + 1, 1, none⟩) (Or.inl rfl) (.slice ao7 n7 c7))
            clear P7 T7 M7 hv7
            try simp only [Act.put, List.getElem_toArray, List.getElem_cons_zero, List.getElem_cons_succ, List.setIfInBounds_toArray, List.set_cons_zero, List.set_cons_succ]
            refine wpAnyH_take (i := 6) (v := ?_) rfl (by kernel_rfl) (by kernel_rfl) (by kernel_rfl) (fun _ _ _ h => h) (Or.inl ⟨by rfl, ?_⟩) (by assumption) ?_
            rotate_left
            · (intro w' hSw; (try dsimp only at hSw); first | (go_simp; done) | (go_simp; with_reducible rfl))
            try simp only [Act.put, List.getElem_toArray, List.getElem_cons_zero, List.getElem_cons_succ, List.setIfInBounds_toArray, List.set_cons_zero, List.set_cons_succ]
            clear hHeld
            refine wpAnyH_ready (rs := [7]) (by kernel_rfl) (by simp) ?_
            refine AllReadyH.cons rfl (fun K' hK => ?_) AllReadyH.nil
            go_simp
            refine hK.out _ _ trivial (fun hHeld => ?_)
            clear hK K' hHeld q1 f1 l7
            generalize w7.setCell ⟨w.heap.size + 1, 1, none⟩ (.slice ao7 n7 c7) = w8 at HP8 HM8 HT8 ⊢
            try simp only [Act.put, List.getElem_toArray, List.getElem_cons_zero, List.getElem_cons_succ, List.setIfInBounds_toArray, List.set_cons_zero, List.set_cons_succ]
            refine wpAnyH_done (by kernel_rfl) ?_ _
            go_wp2_with fail
            go_roundw
            case rel =>
              exact ⟨j + 1, bs ++ [b], _, by omega, by go_num, Lib.hid (by rw [List.length_append, hbs.out]; rfl), HP8.out, HM8.out, HT8.out⟩
            case measure => simp [intOf]; omega
      · obtain rfl : j = N := by omega
        obtain ⟨bs', b, hbb⟩ : ∃ bs' b, bs = bs' ++ [b] := ⟨bs.dropLast, bs.getLast (by intro h; have h1 := hbs.out; rw [h] at h1; have h2 := HN.out; simp at h1; omega), (List.dropLast_concat_getLast _).symm⟩
        subst hbb
        have hlen : bs'.length = f := by have h1 := hbs.out; have h2 := HN.out; rw [List.length_append] at h1; simp at h1; omega
        obtain ⟨go, oo, cap, hov, hBg, _, _, _, _, hcells⟩ := View.cells HMd.out.2.2 (by simp)
        have hcell : wo.cell? ⟨go, oo + f, none⟩ = some (.slice (some ⟨b, 0, none⟩) K K) := hcells f _ (by rw [List.getElem?_map, ← hlen, List.getElem?_append_right (Nat.le_refl _)]; simp [rowOf])
        have hvl : (bs' ++ [b]).length = j := hbs.out
        rw [hvl] at hov
        subst hov
        clear hcells hvl
        have RIw := HRI.out.later HT.out (by omega)
        have i0 := RIw.cell 0 _ rfl
        have i1 := RIw.cell 1 _ rfl
        have i2 := RIw.cell 2 _ rfl
        have i3 := RIw.cell 3 _ rfl
        have p1 := HP.out.cell 1 _ rfl
        have RB := (HMd.out.2.1 b (by simp)).2.1
        have hKs := HK0.out
        rw [hKs] at RB
        have hlf : (flat (List.replicate (s + 1) in0)).length = (s + 1) * 4 := by rw [flat_length, List.length_replicate]
        obtain ⟨u0, hu0⟩ : ∃ u, (flat (List.replicate (s + 1) in0))[s * 4]? = some u := ⟨_, List.getElem?_eq_getElem (by omega)⟩
        obtain ⟨u1, hu1⟩ : ∃ u, (flat (List.replicate (s + 1) in0))[s * 4 + 1]? = some u := ⟨_, List.getElem?_eq_getElem (by omega)⟩
        obtain ⟨u2, hu2⟩ : ∃ u, (flat (List.replicate (s + 1) in0))[s * 4 + 2]? = some u := ⟨_, List.getElem?_eq_getElem (by omega)⟩
        obtain ⟨u3, hu3⟩ : ∃ u, (flat (List.replicate (s + 1) in0))[s * 4 + 3]? = some u := ⟨_, List.getElem?_eq_getElem (by omega)⟩
        have b0 := RB.cell _ _ hu0
        have b1 := RB.cell _ _ hu1
        have b2 := RB.cell _ _ hu2
        have b3 := RB.cell _ _ hu3
        have f0 := RB.free (s * 4)
        have f1 := RB.free (s * 4 + 1)
        have f2 := RB.free (s * 4 + 2)
        have f3 := RB.free (s * 4 + 3)
        have hN' := HN.out
        have n0 : (j : Int) - 1 = (f : Int) := by omega
        have n1 : (f : Int) < (j : Int) := by omega
        have n2 : f < j := by omega
        have s0 : (K : Int) - 1 = (s : Int) := by omega
        have s1 : (s : Int) < (K : Int) := by omega
        have s2 : s < K := by omega
        have n3 : IntKind.i64.wrap (f : Int) = (f : Int) := IntWalk.i64_in _ (by omega)
        have s3 : IntKind.i64.wrap (s : Int) = (s : Int) := IntWalk.i64_in _ (by omega)
        have j16 : j ≤ 16 := by omega
        have K64 : K ≤ 64 := by omega
        clear hN' hKs
        have HRB := Lib.hid RB
        have HRIw := Lib.hid RIw
        clear RB RIw hlf hu0 hu1 hu2 hu3
        go_wp2_with fail
        go_still_tail 10, (by kernel_rfl)
        change wpList _ _ _ _ _ wo.drew
        refine wpList_plain rfl fun K' hK => ?_
        go_simp
        have RB5 : Row ((((wo.setCell ⟨b, s * 4, none⟩ (.int .i64 y.op)).setCell ⟨b, s * 4 + 1, none⟩ (.int .i64 y.a)).setCell ⟨b, s * 4 + 2, none⟩ (.int .i64 y.b)).setCell ⟨b, s * 4 + 3, none⟩ (.int .i64 y.c)).drew b 37 (flat (List.replicate s in0 ++ [y])) := (Row.last y HRB.out).drew
        have T5 : Turns (fun j => j = b) wo ((((wo.setCell ⟨b, s * 4, none⟩ (.int .i64 y.op)).setCell ⟨b, s * 4 + 1, none⟩ (.int .i64 y.a)).setCell ⟨b, s * 4 + 2, none⟩ (.int .i64 y.b)).setCell ⟨b, s * 4 + 3, none⟩ (.int .i64 y.c)).drew :=
          (((((Turns.refl (fun j => j = b) wo).setCell (p := ⟨b, s * 4, none⟩) (Or.inl rfl) (.int .i64 y.op)).setCell (p := ⟨b, s * 4 + 1, none⟩) (Or.inl rfl) (.int .i64 y.a)).setCell (p := ⟨b, s * 4 + 2, none⟩) (Or.inl rfl) (.int .i64 y.b)).setCell (p := ⟨b, s * 4 + 3, none⟩) (Or.inl rfl) (.int .i64 y.c)).drew
        refine hK _ _ (wpList_nil ?_)
        clear hK K'
        generalize ((((wo.setCell ⟨b, s * 4, none⟩ (.int .i64 y.op)).setCell ⟨b, s * 4 + 1, none⟩ (.int .i64 y.a)).setCell ⟨b, s * 4 + 2, none⟩ (.int .i64 y.b)).setCell ⟨b, s * 4 + 3, none⟩ (.int .i64 y.c)).drew = w5 at RB5 T5 ⊢
        have hbB := (HMd.out.2.1 b (by simp)).1
        have P5 := HP.out.later T5 (by omega)
        have F5 : Funcs w5 (.slice (some ⟨go, oo, none⟩) j cap) (bFs j K y) := by
          have h1 := HK0.out
          have h2 := HN.out
          subst h1
          have h3 := Made.funcs HMd.out T5 RB5 (by omega) (by omega)
          rw [hlen, ← h2] at h3
          exact h3
        have TF : Turns (fun _ => False) w w5 := HT1.out.trans (HT.out.trans (E := fun j => w.heap.size ≤ j) T5 (fun j h _ => by omega) (fun j h _ => by omega)) (fun j h _ => h.elim) (fun j h h' => by omega)
        obtain ⟨P, hP⟩ : ∃ P : Nat, (j : Int) * (K : Int) = (P : Int) := ⟨j * K, by rw [Int.natCast_mul]⟩
        have hP64 : P ≤ 1024 := by
          have h1 : j * K ≤ 16 * 64 := Nat.mul_le_mul j16 K64
          have h2 : ((j * K : Nat) : Int) = (P : Int) := by rw [Int.natCast_mul]; exact hP
          omega
        have HMAY : Hid (mayI ⟨(g : Int), bFs j K y⟩ = if 0 ≤ wrongI (g : Int) (j : Int) (K : Int) y then 1 + (P : Int) else 0) := Lib.hid (by rw [← hP]; exact bFs_may (by omega) (by omega) (by omega) j16 (by omega) K64)
        have wg : (Lit.int .i64 (g : Int)).wf = true := WalkArith.wf_i64 (by omega)
        have p0 := P5.cell 0 _ rfl
        have p1 := P5.cell 1 _ rfl
        have HF := Lib.hid F5
        have HTF := Lib.hid TF
        have HP5 := Lib.hid P5
        clear RB5 T5 F5 TF P5 HRB HRIw i0 i1 i2 i3 b0 b1 b2 b3 f0 f1 f2 f3 n0 n1 n2 n3 s0 s1 s2 s3 hbB hcell
        have hP0 : ((1 + (P : Int)) == 0) = false := by rw [beq_eq_false_iff_ne]; omega
        have hM := HM.out
        by_cases hx0 : (x : Int) - 20 < 0
        · have d0 : decide ((x : Int) - 20 < 0) = true := by simpa using hx0
          have HV : Hid (mayI ⟨(g : Int), bFs j K y⟩ = 1 + (P : Int)) := Lib.hid (by rw [HMAY.out, if_pos (HW.out.2 (Or.inl hx0))])
          clear hx0 hM
          go_wp2_with fail
          refine (enc_num (p := ⟨(g : Int), bFs j K y⟩) (z := 1) wg HF.out (by rw [HV.out]; first | rfl | rw [if_neg (by omega)])).mono ?_
          rintro e w6 ⟨a6, L6, c6, rfl, T6⟩
          have HF6 := Lib.hid (HF.out.later T6)
          have p0 := T6.cell p0 (fun x => x)
          have p1 := T6.cell p1 (fun x => x)
          have HT6 := Lib.hid (HTF.out.then T6)
          clear T6
          go_wp2_with fail
          refine (told_any _).mono ?_
          rintro e w7 ⟨rfl, T7⟩
          have HF7 := Lib.hid (HF6.out.later T7)
          have p0 := T7.cell p0 (fun x => x)
          have p1 := T7.cell p1 (fun x => x)
          have HT7 := Lib.hid (HT6.out.then T7)
          clear T7
          go_wp2_with fail
          refine (may_any ⟨(g : Int), bFs j K y⟩ _ _ wg HF7.out).mono ?_
          rintro e w8 ⟨rfl, T8⟩
          rw [HV.out]
          have HF8 := Lib.hid (HF7.out.later T8)
          have p0 := T8.cell p0 (fun x => x)
          have p1 := T8.cell p1 (fun x => x)
          have HT8 := Lib.hid (HT7.out.then T8)
          clear T8
          go_wp2_with fail
          refine (rmay_any ⟨(g : Int), bFs j K y⟩ _ _ wg HF8.out).mono ?_
          rintro e w9 ⟨rfl, T9⟩
          rw [HV.out]
          have HT9 := Lib.hid (HT8.out.then T9)
          clear T9
          go_wp2_with fail
          go_ret
          exact ⟨rfl, below_of HT9.out⟩
        · have d0 : decide ((x : Int) - 20 < 0) = false := by simpa using hx0
          by_cases hx1 : most ≤ (x : Int) - 20
          · have HV : Hid (mayI ⟨(g : Int), bFs j K y⟩ = 1 + (P : Int)) := Lib.hid (by rw [HMAY.out, if_pos (HW.out.2 (Or.inr hx1))])
            have d1 : decide (most ≤ (x : Int) - 20) = true := by simpa using hx1
            rw [← hM] at d1
            clear hx0 hx1 hM
            go_wp2_with fail
            refine (enc_num (p := ⟨(g : Int), bFs j K y⟩) (z := 1) wg HF.out (by rw [HV.out]; first | rfl | rw [if_neg (by omega)])).mono ?_
            rintro e w6 ⟨a6, L6, c6, rfl, T6⟩
            have HF6 := Lib.hid (HF.out.later T6)
            have p0 := T6.cell p0 (fun x => x)
            have p1 := T6.cell p1 (fun x => x)
            have HT6 := Lib.hid (HTF.out.then T6)
            clear T6
            go_wp2_with fail
            refine (told_any _).mono ?_
            rintro e w7 ⟨rfl, T7⟩
            have HF7 := Lib.hid (HF6.out.later T7)
            have p0 := T7.cell p0 (fun x => x)
            have p1 := T7.cell p1 (fun x => x)
            have HT7 := Lib.hid (HT6.out.then T7)
            clear T7
            go_wp2_with fail
            refine (may_any ⟨(g : Int), bFs j K y⟩ _ _ wg HF7.out).mono ?_
            rintro e w8 ⟨rfl, T8⟩
            rw [HV.out]
            have HF8 := Lib.hid (HF7.out.later T8)
            have p0 := T8.cell p0 (fun x => x)
            have p1 := T8.cell p1 (fun x => x)
            have HT8 := Lib.hid (HT7.out.then T8)
            clear T8
            go_wp2_with fail
            refine (rmay_any ⟨(g : Int), bFs j K y⟩ _ _ wg HF8.out).mono ?_
            rintro e w9 ⟨rfl, T9⟩
            rw [HV.out]
            have HT9 := Lib.hid (HT8.out.then T9)
            clear T9
            go_wp2_with fail
            go_ret
            exact ⟨rfl, below_of HT9.out⟩
          · have HV : Hid (mayI ⟨(g : Int), bFs j K y⟩ = 0) := Lib.hid (by rw [HMAY.out, if_neg (fun h => by rcases HW.out.1 h with h | h; exact hx0 h; exact hx1 h)])
            have d1 : decide (most ≤ (x : Int) - 20) = false := by simpa using hx1
            rw [← hM] at d1
            clear hx0 hx1 hM
            go_wp2_with fail
            refine (enc_num (p := ⟨(g : Int), bFs j K y⟩) (z := 0) wg HF.out (by rw [HV.out]; first | rfl | rw [if_neg (by omega)])).mono ?_
            rintro e w6 ⟨a6, L6, c6, rfl, T6⟩
            have HF6 := Lib.hid (HF.out.later T6)
            have p0 := T6.cell p0 (fun x => x)
            have p1 := T6.cell p1 (fun x => x)
            have HT6 := Lib.hid (HTF.out.then T6)
            clear T6
            go_wp2_with fail
            refine (told_any _).mono ?_
            rintro e w7 ⟨rfl, T7⟩
            have HF7 := Lib.hid (HF6.out.later T7)
            have p0 := T7.cell p0 (fun x => x)
            have p1 := T7.cell p1 (fun x => x)
            have HT7 := Lib.hid (HT6.out.then T7)
            clear T7
            go_wp2_with fail
            refine (may_any ⟨(g : Int), bFs j K y⟩ _ _ wg HF7.out).mono ?_
            rintro e w8 ⟨rfl, T8⟩
            rw [HV.out]
            have HF8 := Lib.hid (HF7.out.later T8)
            have p0 := T8.cell p0 (fun x => x)
            have p1 := T8.cell p1 (fun x => x)
            have HT8 := Lib.hid (HT7.out.then T8)
            clear T8
            go_wp2_with fail
            refine (rmay_any ⟨(g : Int), bFs j K y⟩ _ _ wg HF8.out).mono ?_
            rintro e w9 ⟨rfl, T9⟩
            rw [HV.out]
            have HT9 := Lib.hid (HT8.out.then T9)
            clear T9
            go_wp2_with fail
            go_ret
            exact ⟨rfl, below_of HT9.out⟩
end Go.Proofs.Ytedgeoigapilnaa
