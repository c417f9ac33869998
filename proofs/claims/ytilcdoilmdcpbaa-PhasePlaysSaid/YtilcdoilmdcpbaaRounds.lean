/- The walk of PhaseRounds. -/
import Derived.Test.YtilcdoilmdcpbaaCycles
import Derived.Test.YtilcdoilmdcpbaaOps
namespace Go.Proofs.Ytilcdoilmdcpbaa
open Go.RowKit

set_option maxRecDepth 100000 in
theorem rounds_big (ps : Int) (a : Option Addr) (len cap : Nat) (w : World) (hlen : 200 < len) : Calls Try.prog 3 #[.int .i64 ps, .slice a len cap] w fun e w' => e = .returned (.bool true) ∧ Turns (fun _ => False) w w' := by
  obtain ⟨n, hn1, hn2, hn⟩ := mod_nat ps 20 (by omega) (by omega)
  have hl : (200 : Int) < (len : Int) := by omega
  have HN := Lib.hid hn
  clear hn
  go_enter Try.func3, Try.ntmps3
  go_wp2_with fail
  rw [HN.out]
  clear HN
  refine (new_ok n w (by omega) (by omega)).mono ?_
  rintro e w1 ⟨b, g, rfl, H0, hb, hg, T0⟩
  clear H0 hb hg
  go_wp2_with fail
  refine (told_any _).mono ?_
  rintro e w2 ⟨rfl, t⟩
  have TF := Lib.hid (T0.then t)
  clear T0 t
  go_wp2_with fail
  go_ret
  exact ⟨rfl, TF.out⟩

theorem mod_idx (x : Int) (n : Nat) (h1 : 1 ≤ n) (h2 : n ≤ 1000) : ∃ q : Nat, q < n ∧ wrap64 ((IntKind.u64.wrap x).tmod (n : Int)) = (q : Int) := by
  have h0' : 0 ≤ IntKind.u64.wrap x := by rw [IntKind.wrap_u64]; omega
  rw [Int.tmod_eq_emod_of_nonneg h0']
  generalize IntKind.u64.wrap x = y
  have l1 : 0 ≤ y % (n : Int) := Int.emod_nonneg _ (by omega)
  have l2 : y % (n : Int) < n := Int.emod_lt_of_pos _ (by omega)
  generalize y % (n : Int) = z at l1 l2 ⊢
  refine ⟨z.toNat, by omega, ?_⟩
  unfold wrap64
  omega

theorem boolAt (l : List Bool) (q : Nat) (h : q < l.length) : (l.map Value.bool)[q]? = some (.bool (l.getD q false)) := by simp [h]

set_option maxHeartbeats 2000000 in
set_option maxRecDepth 100000 in
theorem rounds_any (ps : Int) (a : Option Addr) (len cap : Nat) (z : Nat → OpR) (w : World) (hlen : len ≤ 200) (hi : IsOps w a len z) : Calls Try.prog 3 #[.int .i64 ps, .slice a len cap] w fun e w' => e = .returned (.bool true) ∧ Turns (fun _ => False) w w' := by
  obtain ⟨i0, hi4, hz0, hz1, hz2⟩ := info_parts Try.info4
  obtain ⟨n, hn1, hn2, hn⟩ := mod_nat ps 20 (by omega) (by omega)
  have hl : ¬ (200 : Int) < (len : Int) := by omega
  have HN := Lib.hid hn
  clear hn
  go_enter Try.func3, Try.ntmps3
  go_wp2_with fail
  rw [HN.out]
  clear HN
  refine (new_ok n w (by omega) (by omega)).mono ?_
  rintro e w1 ⟨b, g, rfl, H0, hb, hg, T0⟩
  have T : Turns (fun j => w.heap.size ≤ j) w w1 := T0.mono fun _ x _ => x.elim
  clear T0
  go_wp2_with fail
  refine Calls.mono (u_begin_ok H0 (by omega)) ?_
  rintro e w2 ⟨rfl, H2, t⟩
  have T2 := T.then (t.mono (E := fun j => w.heap.size ≤ j) fun j hj _ => by rcases hj with rfl | rfl <;> assumption)
  rw [List.length_replicate, Int.zero_add] at H2
  clear H0 T t
  go_wp2_with (at_make; refine wpList_make_full _ rfl (.tmp 41) (.tmp 41) 29 rfl w.heap.size 4 i0 (.bool false) 1 Try.underlying29 hi4 hz0 hz1 _ _ _ _ n rfl rfl rfl rfl ?b1 ?b2 ?b3 ?_)
  case b1 => rw [hz2]; omega
  case b2 => unfold maxLen; omega
  case b3 => exact T2.size
  intro w3 hown hgr
  have R := row_of_made hown
  have T3 := T2.grown hgr (fun _ x => by cases x)
  have H3 := H2.later (D := fun _ => False) ⟨hgr.os, hgr.tape, hgr.output, hgr.size, fun k hk _ => hgr.block k hk (by simp)⟩ (fun x => x) (fun x => x)
  have hsb : w2.heap.size ≠ b := fun e => by have := H2.row.lt; omega
  have hsg : w2.heap.size ≠ g := fun e => by have := H2.said.lt; omega
  have hsz : w.heap.size ≤ w2.heap.size := T2.size
  clear hown hgr H2 T2
  go_wp2_with fail
  go_loopw [8, 9, 10, 11] (fun sv cv bv iv wr => ∃ (i gs ct bk : Nat) (l : List Bool) (rs : Int), i ≤ len ∧ iv = .int .i64 i ∧ sv = .slice (some ⟨gs, 0, none⟩) n n ∧ cv = .int .i64 ct ∧ bv = .int .i64 bk ∧ ct ≤ i ∧ bk ≤ i ∧ 0 ≤ rs ∧ rs ≤ bk ∧ l.length = n ∧
      gs ≠ b ∧ gs ≠ g ∧ w.heap.size ≤ gs ∧ PhB wr b g 1 1 l ct rs ∧ Row wr gs 4 (l.map Value.bool) ∧ Turns (fun j => w.heap.size ≤ j) w wr)
    (fun _ _ _ iv _ => len - (intOf iv).toNat)
  case atStart => exact ⟨0, w2.heap.size, 0, 0, _, 0, by omega, rfl, rfl, rfl, rfl, by omega, by omega, by omega, by omega, by simp, hsb, hsg, hsz, H3, R, T3⟩
  case round =>
    clear R H3 T3 hsb hsg hsz
    obtain ⟨i, gs, ct, bk, l, rs, hil, rfl, rfl, rfl, rfl, hct, hbk, hrs0, hrs, hln, hsb, hsg, hsz, H, R, T⟩ := hrel
    have HLN := Lib.hid hln
    by_cases hlt : i < len
    · obtain ⟨ba, off, rfl, hba, hcell⟩ := hi (by omega)
      have hop := hcell i hlt
      have hbelow := T.toBelow (Nat.le_refl _) (fun j hj x => by omega)
      have c1 := (hbelow.cell (p := ⟨ba, off + i * 4 + 1, none⟩) hba).trans hop.2.1
      have c2 := (hbelow.cell (p := ⟨ba, off + i * 4 + 2, none⟩) hba).trans hop.2.2.1
      have c3 := (hbelow.cell (p := ⟨ba, off + i * 4 + 3, none⟩) hba).trans hop.2.2.2
      obtain ⟨q, hq, hqe⟩ := mod_idx (z i).p n hn1 (by omega)
      have HQ := Lib.hid hqe
      obtain ⟨zp, hzp⟩ : ∃ x, (z i).p = x := ⟨_, rfl⟩
      obtain ⟨ze, hze⟩ : ∃ x, (z i).e = x := ⟨_, rfl⟩
      obtain ⟨zf, hzf⟩ : ∃ x, (z i).f = x := ⟨_, rfl⟩
      rw [hzp] at c1 HQ
      rw [hze] at c2
      rw [hzf] at c3
      clear hop hcell hbelow hqe hzp hze hzf hln
      go_wp2_with fail
      rw [HQ.out]
      have hqn : (q : Int) < (n : Int) := by omega
      cases hef : (ze && !zf)
      · have hZ : sayL l q ze zf = List.replicate n false := by unfold sayL; rw [hef, HLN.out]; rfl
        have hC : sayC l ct q ze zf = 0 := by unfold sayC; rw [hef]; rfl
        obtain ⟨rs', hR, hr0, hr1⟩ : ∃ rs' : Int, sayR ct rs ze zf = rs' ∧ 0 ≤ rs' ∧ rs' ≤ (bk : Int) + 1 := ⟨_, rfl, by unfold sayR; rw [hef]; simp only [Bool.false_eq_true, if_false]; split <;> omega, by unfold sayR; rw [hef]; simp only [Bool.false_eq_true, if_false]; split <;> omega⟩
        have SAY := fun (W : World) (h : PhB W b g 1 1 l ct rs) => u_say_ok (w := W) q ze zf h (by omega) (by rw [HLN.out]; omega) (by omega) (by omega) (List.replicate n false) 0 rs' hZ hC hR
        go_still_tail 12, (by kernel_rfl)
        go_wp2_with fail
        refine Calls.mono (SAY _ (H.later (Turns.refl (fun _ => False) wr).drew (fun x => x) (fun x => x))) ?_
        rintro e w4 ⟨rfl, H4, t4⟩
        have T4 := T.drew.then (t4.mono (E := fun j => w.heap.size ≤ j) fun j hj _ => by rcases hj with rfl | rfl <;> assumption)
        have d2 : w4.cell? ⟨ba, off + i * 4 + 2, none⟩ = some (.bool ze) := t4.cell (w := wr.drew) c2 (fun x => by rcases x with x | x <;> (simp at x; omega))
        have d3 : w4.cell? ⟨ba, off + i * 4 + 3, none⟩ = some (.bool zf) := t4.cell (w := wr.drew) c3 (fun x => by rcases x with x | x <;> (simp at x; omega))
        clear H T R t4 c1 c2 c3 hZ hC hR SAY HLN
        have hsz4 : w.heap.size ≤ w4.heap.size := T4.size
        have hnb := H4.row.lt
        have hng := H4.said.lt
        have hnn : ((0 : Int) == (n : Int)) = false := by simp; omega
        have hq0 : Hid (false = qt 1 0 (List.replicate n false).length) := by show false = qt 1 0 (List.replicate n false).length; unfold qt; simp; omega
        revert hef
        cases ze <;> cases zf <;> intro hef
        all_goals first
          | (exfalso; simp at hef; done)
          | (clear hef
             go_wp2_with (at_make; refine wpList_make_full _ rfl (.tmp 96) (.tmp 96) 29 rfl w.heap.size 4 i0 (.bool false) 1 Try.underlying29 hi4 hz0 hz1 _ _ _ _ n rfl rfl rfl rfl ?b1 ?b2 ?b3 ?_)
             case b1 => rw [hz2]; omega
             case b2 => unfold maxLen; omega
             case b3 => exact hsz4
             intro w5 hown hgr
             have R := row_of_made hown
             have T := T4.grown hgr (fun _ x => by cases x)
             have H := H4.later (D := fun _ => False) ⟨hgr.os, hgr.tape, hgr.output, hgr.size, fun k hk _ => hgr.block k hk (by simp)⟩ (fun x => x) (fun x => x)
             have hsb : w4.heap.size ≠ b := by omega
             have hsg : w4.heap.size ≠ g := by omega
             clear hown hgr H4 T4 d2 d3 hnb hng
             go_wp2_with fail
             refine Calls.mono (u_quiet H false hq0.out) ?_
             rintro e w6 ⟨rfl, H6, t6⟩
             have T6 := T.then (t6.mono (E := fun j => w.heap.size ≤ j) fun j hj _ => by rcases hj with rfl | rfl <;> assumption)
             have R6 := R.later t6 (fun x => by rcases x with x | x; exact hsb x; exact hsg x)
             clear H T R t6
             go_wp2_with fail
             refine Calls.mono (u_restarts H6) ?_
             rintro e w7 ⟨rfl, H7, t7⟩
             have T7 := Lib.hid (T6.then (t7.mono (E := fun j => w.heap.size ≤ j) fun j hj _ => by rcases hj with rfl | rfl <;> assumption))
             have R7 := Lib.hid (R6.later t7 (fun x => by rcases x with x | x; exact hsb x; exact hsg x))
             have H7' := Lib.hid H7
             clear H6 T6 R6 t7 H7
             go_wp2_with fail
             go_roundw
             case rel => exact ⟨i + 1, w4.heap.size, 0, bk + 1, List.replicate n false, rs', by omega, by go_num, rfl, rfl, by go_num, by omega, by omega, hr0, by omega, by simp, hsb, hsg, hsz4, H7'.out, R7.out, T7.out⟩
             case measure => simp [intOf]; omega)
      · obtain ⟨rfl, rfl⟩ : ze = true ∧ zf = false := by revert hef; cases ze <;> cases zf <;> simp
        clear hef
        have hlq : (q : Int) < (l.length : Int) := by rw [HLN.out]; omega
        have cq : wr.cell? ⟨gs, q, none⟩ = some (.bool (l.getD q false)) := R.cell q _ (boolAt l q (by omega))
        cases hv : l.getD q false
        · have SAY := fun (W : World) (h : PhB W b g 1 1 l ct rs) => u_say_ok (w := W) q true false h (by omega) hlq (by omega) (by omega) (l.set q true) ((ct : Int) + 1) rs (by rfl) (by simp only [sayC, Int.toNat_natCast, hv]; rfl) (by rfl)
          go_still_tail 12, (by kernel_rfl)
          go_wp2_with fail
          refine Calls.mono (SAY _ (H.later (Turns.refl (fun _ => False) wr).drew (fun x => x) (fun x => x))) ?_
          rintro e w4 ⟨rfl, H4, t4⟩
          have T3 := T.drew.then (t4.mono (E := fun j => w.heap.size ≤ j) fun j hj _ => by rcases hj with rfl | rfl <;> assumption)
          have d2 : w4.cell? ⟨ba, off + i * 4 + 2, none⟩ = some (.bool true) := t4.cell (w := wr.drew) c2 (fun x => by rcases x with x | x <;> (simp at x; omega))
          have d3 : w4.cell? ⟨ba, off + i * 4 + 3, none⟩ = some (.bool false) := t4.cell (w := wr.drew) c3 (fun x => by rcases x with x | x <;> (simp at x; omega))
          have R3 : Row w4 gs 4 (l.map Value.bool) := Row.later (w := wr.drew) R t4 (fun x => by rcases x with x | x; exact hsb x; exact hsg x)
          have R4 : Row (w4.setCell ⟨gs, q, none⟩ (.bool true)) gs 4 ((l.set q true).map Value.bool) := by have := R3.set q (.bool true); rwa [← List.map_set] at this
          have cq4 : w4.cell? ⟨gs, q, none⟩ = some (.bool false) := R3.cell q _ (by rw [← hv]; exact boolAt l q (by omega))
          have fq4 := R3.free q
          have H5 : PhB (w4.setCell ⟨gs, q, none⟩ (.bool true)) b g 1 1 (l.set q true) ((ct : Int) + 1) rs := H4.later (D := fun j => j = gs) (Turns.setCell (D := fun j => j = gs) (Turns.refl _ _) (p := ⟨gs, q, none⟩) (Or.inl rfl) _) (fun x => hsb x.symm) (fun x => hsg x.symm)
          have T4 := T3.setCell (p := ⟨gs, q, none⟩) (Or.inl hsz) (.bool true)
          clear H T R t4 c1 c2 c3 cq SAY H4 T3 R3 hv
          have H4 := H5
          clear H5
          have cq := cq4
          have HQ2 := Lib.hid hlq
          obtain ⟨r, hcn⟩ : ∃ r, (((ct : Int) + 1) == (n : Int)) = r := ⟨_, rfl⟩
          have hq0 : Hid (r = qt 1 ((ct : Int) + 1) (l.set q true).length) := by
            show r = qt 1 ((ct : Int) + 1) (l.set q true).length
            rw [List.length_set, HLN.out, ← hcn]
            unfold qt
            rw [Bool.eq_iff_iff]; simp
          cases r
          all_goals
            go_wp2_with fail
            refine Calls.mono (u_quiet H4 _ hq0.out) ?_
            rintro e w6 ⟨rfl, H6, t6⟩
            have T6 := T4.then (t6.mono (E := fun j => w.heap.size ≤ j) fun j hj _ => by rcases hj with rfl | rfl <;> assumption)
            have R6 := R4.later t6 (fun x => by rcases x with x | x; exact hsb x; exact hsg x)
            clear t6
            go_wp2_with fail
            refine Calls.mono (u_restarts H6) ?_
            rintro e w7 ⟨rfl, H7, t7⟩
            have T7 := Lib.hid (T6.then (t7.mono (E := fun j => w.heap.size ≤ j) fun j hj _ => by rcases hj with rfl | rfl <;> assumption))
            have R7 := Lib.hid (R6.later t7 (fun x => by rcases x with x | x; exact hsb x; exact hsg x))
            have H7' := Lib.hid H7
            clear H6 T6 R6 t7 H7
            go_wp2_with fail
            go_roundw
            case rel => exact ⟨i + 1, gs, ct + 1, bk, l.set q true, rs, by omega, by go_num, rfl, by go_num, rfl, by omega, by omega, hrs0, by omega, by rw [List.length_set]; exact HLN.out, hsb, hsg, hsz, H7'.out, R7.out, T7.out⟩
            case measure => simp [intOf]; omega
        · have SAY := fun (W : World) (h : PhB W b g 1 1 l ct rs) => u_say_ok (w := W) q true false h (by omega) hlq (by omega) (by omega) (l.set q true) (ct : Int) rs (by rfl) (by simp only [sayC, Int.toNat_natCast, hv]; rfl) (by rfl)
          have hle : l.set q true = l := by
            apply List.ext_getElem?
            intro j
            by_cases hj : q = j
            · subst hj
              rw [List.getElem?_set_self (by omega), List.getElem?_eq_getElem (by omega)]
              have hv' := hv
              rw [List.getD_eq_getElem?_getD, List.getElem?_eq_getElem (by omega)] at hv'
              simpa using hv'.symm
            · rw [List.getElem?_set_ne hj]
          have HLE := Lib.hid hle
          go_still_tail 12, (by kernel_rfl)
          go_wp2_with fail
          refine Calls.mono (SAY _ (H.later (Turns.refl (fun _ => False) wr).drew (fun x => x) (fun x => x))) ?_
          rintro e w4 ⟨rfl, H4, t4⟩
          have T4 := T.drew.then (t4.mono (E := fun j => w.heap.size ≤ j) fun j hj _ => by rcases hj with rfl | rfl <;> assumption)
          have d2 : w4.cell? ⟨ba, off + i * 4 + 2, none⟩ = some (.bool true) := t4.cell (w := wr.drew) c2 (fun x => by rcases x with x | x <;> (simp at x; omega))
          have d3 : w4.cell? ⟨ba, off + i * 4 + 3, none⟩ = some (.bool false) := t4.cell (w := wr.drew) c3 (fun x => by rcases x with x | x <;> (simp at x; omega))
          have R3 : Row w4 gs 4 (l.map Value.bool) := Row.later (w := wr.drew) R t4 (fun x => by rcases x with x | x; exact hsb x; exact hsg x)
          have R4 : Row w4 gs 4 ((l.set q true).map Value.bool) := by rw [hle]; exact R3
          have cq4 : w4.cell? ⟨gs, q, none⟩ = some (.bool true) := R3.cell q _ (by rw [← hv]; exact boolAt l q (by omega))
          clear H T R t4 c1 c2 c3 cq SAY R3 hv hle
          have cq := cq4
          have HQ2 := Lib.hid hlq
          obtain ⟨r, hcn⟩ : ∃ r, ((ct : Int) == (n : Int)) = r := ⟨_, rfl⟩
          have hq0 : Hid (r = qt 1 ((ct : Int)) (l.set q true).length) := by
            show r = qt 1 ((ct : Int)) (l.set q true).length
            rw [List.length_set, HLN.out, ← hcn]
            unfold qt
            rw [Bool.eq_iff_iff]; simp
          cases r
          all_goals
            go_wp2_with fail
            refine Calls.mono (u_quiet H4 _ hq0.out) ?_
            rintro e w6 ⟨rfl, H6, t6⟩
            have T6 := T4.then (t6.mono (E := fun j => w.heap.size ≤ j) fun j hj _ => by rcases hj with rfl | rfl <;> assumption)
            have R6 := R4.later t6 (fun x => by rcases x with x | x; exact hsb x; exact hsg x)
            clear t6
            go_wp2_with fail
            refine Calls.mono (u_restarts H6) ?_
            rintro e w7 ⟨rfl, H7, t7⟩
            have T7 := Lib.hid (T6.then (t7.mono (E := fun j => w.heap.size ≤ j) fun j hj _ => by rcases hj with rfl | rfl <;> assumption))
            have R7 := Lib.hid (R6.later t7 (fun x => by rcases x with x | x; exact hsb x; exact hsg x))
            have H7' := Lib.hid H7
            clear H6 T6 R6 t7 H7
            go_wp2_with fail
            go_roundw
            case rel => exact ⟨i + 1, gs, ct, bk, l.set q true, rs, by omega, by go_num, rfl, rfl, rfl, by omega, by omega, hrs0, by omega, by rw [List.length_set]; exact HLN.out, hsb, hsg, hsz, H7'.out, R7.out, T7.out⟩
            case measure => simp [intOf]; omega
    · obtain rfl : i = len := by omega
      clear hlt
      by_cases hcn : ct = n
      · have hq : qt 1 (ct : Int) l.length = true := by unfold qt; rw [hln]; simp; omega
        subst hcn
        clear R
        go_wp2_with fail
        refine Calls.mono (u_term_ok H hq) ?_
        rintro e w2 ⟨rfl, H2, t⟩
        have T2 := T.then (t.mono (E := fun j => w.heap.size ≤ j) fun j hj _ => by rcases hj with rfl | rfl <;> assumption)
        have H3 : PhB w2 b g 2 1 l (ct : Int) rs := H2
        clear H T t H2
        have H := H3
        have T := T2
        clear H3 T2
        clear hq hln HLN
        go_wp2_with fail
        refine (told_any _).mono ?_
        rintro e w2 ⟨rfl, t⟩
        have T2 := T.then (t.mono (E := fun j => w.heap.size ≤ j) fun j hj _ => hj.elim)
        have H3 : PhB w2 b g 2 1 l (ct : Int) rs := H.later t (fun x => x) (fun x => x)
        clear H T t
        have H := H3
        have T := T2
        clear H3 T2
        go_wp2_with fail
        refine Calls.mono (u_phase H) ?_
        rintro e w2 ⟨rfl, H2, t⟩
        have T2 := T.then (t.mono (E := fun j => w.heap.size ≤ j) fun j hj _ => by rcases hj with rfl | rfl <;> assumption)
        have H3 : PhB w2 b g 2 1 l (ct : Int) rs := H2
        clear H T t H2
        have H := H3
        have T := T2
        clear H3 T2
        go_wp2_with fail
        refine Calls.mono (u_begin_no H (by omega)) ?_
        rintro e w2 ⟨rfl, H2, t⟩
        have T2 := T.then (t.mono (E := fun j => w.heap.size ≤ j) fun j hj _ => by rcases hj with rfl | rfl <;> assumption)
        have H3 : PhB w2 b g 2 1 l (ct : Int) rs := H2
        clear H T t H2
        have H := H3
        have T := T2
        clear H3 T2
        go_wp2_with fail
        refine Calls.mono (u_end_no H (by omega)) ?_
        rintro e w2 ⟨rfl, H2, t⟩
        have T2 := T.then (t.mono (E := fun j => w.heap.size ≤ j) fun j hj _ => by rcases hj with rfl | rfl <;> assumption)
        have H3 : PhB w2 b g 2 1 l (ct : Int) rs := H2
        clear H T t H2
        have H := H3
        have T := T2
        clear H3 T2
        have TF := Lib.hid (T.mono (E := fun _ => False) fun j hj hj' => (by omega : False))
        clear T H
        go_wp2_with fail
        go_ret
        exact ⟨rfl, TF.out⟩
      · have hq : qt 1 (ct : Int) l.length = false := by unfold qt; rw [hln]; simp; omega
        have hne : ((ct : Int) == (n : Int)) = false := by simp; omega
        clear R
        go_wp2_with fail
        refine Calls.mono (u_term_no H hq) ?_
        rintro e w2 ⟨rfl, H2, t⟩
        have T2 := T.then (t.mono (E := fun j => w.heap.size ≤ j) fun j hj _ => by rcases hj with rfl | rfl <;> assumption)
        have H3 : PhB w2 b g 1 1 l (ct : Int) rs := H2
        clear H T t H2
        have H := H3
        have T := T2
        clear H3 T2
        clear hq hln HLN
        go_wp2_with fail
        refine (told_any _).mono ?_
        rintro e w2 ⟨rfl, t⟩
        have T2 := T.then (t.mono (E := fun j => w.heap.size ≤ j) fun j hj _ => hj.elim)
        have H3 : PhB w2 b g 1 1 l (ct : Int) rs := H.later t (fun x => x) (fun x => x)
        clear H T t
        have H := H3
        have T := T2
        clear H3 T2
        go_wp2_with fail
        refine Calls.mono (u_phase H) ?_
        rintro e w2 ⟨rfl, H2, t⟩
        have T2 := T.then (t.mono (E := fun j => w.heap.size ≤ j) fun j hj _ => by rcases hj with rfl | rfl <;> assumption)
        have H3 : PhB w2 b g 1 1 l (ct : Int) rs := H2
        clear H T t H2
        have H := H3
        have T := T2
        clear H3 T2
        go_wp2_with fail
        refine Calls.mono (u_begin_no H (by omega)) ?_
        rintro e w2 ⟨rfl, H2, t⟩
        have T2 := T.then (t.mono (E := fun j => w.heap.size ≤ j) fun j hj _ => by rcases hj with rfl | rfl <;> assumption)
        have H3 : PhB w2 b g 1 1 l (ct : Int) rs := H2
        clear H T t H2
        have H := H3
        have T := T2
        clear H3 T2
        go_wp2_with fail
        refine Calls.mono (u_end_no H (by omega)) ?_
        rintro e w2 ⟨rfl, H2, t⟩
        have T2 := T.then (t.mono (E := fun j => w.heap.size ≤ j) fun j hj _ => by rcases hj with rfl | rfl <;> assumption)
        have H3 : PhB w2 b g 1 1 l (ct : Int) rs := H2
        clear H T t H2
        have H := H3
        have T := T2
        clear H3 T2
        have TF := Lib.hid (T.mono (E := fun _ => False) fun j hj hj' => (by omega : False))
        clear T H
        go_wp2_with fail
        go_ret
        exact ⟨rfl, TF.out⟩

theorem rounds_walk (a0 : Int) (_w0 : (Lit.int .i64 a0).wf = true) (a : Option Addr) (len cap : Nat) (z : Nat → OpR) {w : World} (h : IsOps w a len z) :
    Calls Try.prog 3 #[.int .i64 a0, .slice a len cap] w fun e w' => e = .returned (.bool true) ∧ Below w.heap.size w w' := by
  by_cases hl : 200 < len
  · exact (rounds_big a0 a len cap w hl).mono fun _ _ ⟨he, ht⟩ => ⟨he, ht.toBelow (Nat.le_refl _) fun _ _ x => x⟩
  · exact (rounds_any a0 a len cap z w (by omega) h).mono fun _ _ ⟨he, ht⟩ => ⟨he, ht.toBelow (Nat.le_refl _) fun _ _ x => x⟩
end Go.Proofs.Ytilcdoilmdcpbaa
