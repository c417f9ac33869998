/- code: the reference's May by contract. -/
import Derived.Test.YtedgeoigapilnaaRwrong
namespace Go.Proofs.Ytedgeoigapilnaa
open Go.RowKit

set_option maxHeartbeats 2000000 in
set_option maxRecDepth 100000 in
theorem rmay_any (p : Pr) (v : Value) (w : World) (wg : (Lit.int .i64 p.g).wf = true) (F : Funcs w v p.fs) :
    Calls Try.prog 15 #[.agg #[.int .i64 p.g, v]] w fun e w' => e = .returned (.int .i64 (mayI p)) ∧ Turns (fun _ => False) w w' := by
  obtain ⟨g, fs⟩ := p
  simp only at F wg
  obtain ⟨hmax, ao, cap, rfl, hF⟩ := F
  have hNN : fs.length = fs.length := rfl
  generalize hN : fs.length = N at hmax ⊢
  obtain ⟨w1, hw1⟩ : ∃ w1, w.alloc (.cells #[.int .i64 g, .slice ao N cap] 24) = w1 := ⟨_, rfl⟩
  have R1 : Row w1 w.heap.size 24 [.int .i64 g, .slice ao N cap] := by subst hw1; exact heap_new rfl
  have T1 : Turns (fun _ => False) w w1 := by subst hw1; exact (Turns.refl _ _).alloc _
  have H1 := Lib.hid hw1
  have HN := Lib.hid hN
  have HF := Lib.hid hF
  have c0 := R1.cell 0 _ rfl
  have c1 := R1.cell 1 _ rfl
  clear hw1 hN hF hNN
  unfold maxLen at hmax
  by_cases h3 : g < 0
  · have d3 : decide (g < 0) = true := by simpa using h3
    have hs : mayI ⟨g, fs⟩ = 1 := by simp only [mayI]; rw [if_pos (by right; right; left; omega)]
    have HS := Lib.hid hs
    clear hs h3
    go_enter Try.func15, Try.ntmps15
    go_wp2_with fail
    go_ret
    exact ⟨ret_int HS.out.symm, H1.out ▸ T1⟩
  have d3 : decide (g < 0) = false := by simpa using h3
  by_cases h4 : (32 : Int) < g
  · have d4 : decide ((32 : Int) < g) = true := by simpa using h4
    have hs : mayI ⟨g, fs⟩ = 1 := by simp only [mayI]; rw [if_pos (by right; right; right; omega)]
    have HS := Lib.hid hs
    clear hs h3 h4
    go_enter Try.func15, Try.ntmps15
    go_wp2_with fail
    go_ret
    exact ⟨ret_int HS.out.symm, H1.out ▸ T1⟩
  have d4 : decide ((32 : Int) < g) = false := by simpa using h4
  by_cases h1 : (N : Int) < 1
  · have d1 : decide ((N : Int) < 1) = true := by simpa using h1
    have hs : mayI ⟨g, fs⟩ = 1 := by simp only [mayI]; rw [if_pos (by left; rw [HN.out]; omega)]
    have HS := Lib.hid hs
    clear hs h1 h3 h4
    go_enter Try.func15, Try.ntmps15
    go_wp2_with fail
    go_ret
    exact ⟨ret_int HS.out.symm, H1.out ▸ T1⟩
  have d1 : decide ((N : Int) < 1) = false := by simpa using h1
  by_cases h2 : (16 : Int) < (N : Int)
  · have d2 : decide ((16 : Int) < (N : Int)) = true := by simpa using h2
    have hs : mayI ⟨g, fs⟩ = 1 := by simp only [mayI]; rw [if_pos (by right; left; rw [HN.out]; omega)]
    have HS := Lib.hid hs
    clear hs h1 h2 h3 h4
    go_enter Try.func15, Try.ntmps15
    go_wp2_with fail
    go_ret
    exact ⟨ret_int HS.out.symm, H1.out ▸ T1⟩
  have d2 : decide ((16 : Int) < (N : Int)) = false := by simpa using h2
  have hN16 : N ≤ 16 := by omega
  have HT1 := Lib.hid T1
  clear T1 hmax
  go_enter Try.func15, Try.ntmps15
  go_wp2_with fail
  rw [H1.out]
  clear H1 d1 d2 d3 d4
  go_loop [3] (fun kv => ∃ k : Nat, k ≤ N ∧ kv = .int .i64 (k : Int) ∧ Hid ((fs.take k).all sizeB = true)) (fun kv => N - (intOf kv).toNat)
  case atStart => exact ⟨0, by omega, rfl, Lib.hid rfl⟩
  case round =>
    obtain ⟨k, hk, rfl, hall⟩ := hrel
    by_cases hlt : k < N
    · obtain ⟨l, hl⟩ : ∃ l, fs[k]? = some l := ⟨_, List.getElem?_eq_getElem (by rw [HN.out]; exact hlt)⟩
      obtain ⟨b, o, u, rfl, hc, ⟨hLm, ao', cap', rfl, hI⟩⟩ := HF.out k l hl
      have hc1 := HT1.out.cell hc (fun x => x)
      have hLL : l.length = l.length := rfl
      generalize hL : l.length = L at hc1 hLm
      have HL := Lib.hid hL
      have Hl := Lib.hid hl
      clear hL hLL hI hc hl
      by_cases h5 : (L : Int) < 1
      · have d5 : decide ((L : Int) < 1) = true := by simpa using h5
        have HS := Lib.hid (mayI_size (g := g) (all_bad Hl.out (by simp [sizeB]; rw [HL.out]; omega)))
        clear h5
        go_wp2_with fail
        go_ret
        exact ⟨ret_int HS.out.symm, HT1.out⟩
      have d5 : decide ((L : Int) < 1) = false := by simpa using h5
      by_cases h6 : (64 : Int) < (L : Int)
      · have d6 : decide ((64 : Int) < (L : Int)) = true := by simpa using h6
        have HS := Lib.hid (mayI_size (g := g) (all_bad Hl.out (by simp [sizeB]; rw [HL.out]; omega)))
        clear h5 h6
        go_wp2_with fail
        go_ret
        exact ⟨ret_int HS.out.symm, HT1.out⟩
      have d6 : decide ((64 : Int) < (L : Int)) = false := by simpa using h6
      have HA := Lib.hid (all_step Hl.out (by simp [sizeB]; rw [HL.out]; omega) hall.out)
      clear h5 h6
      go_wp2_with fail
      go_round
      case rel => exact ⟨k + 1, by omega, by go_num, HA⟩
      case measure => simp [intOf]; omega
    · obtain rfl : k = N := by omega
      have hA := hall.out
      rw [← HN.out, List.take_length] at hA
      have HA := Lib.hid hA
      clear hA hall
      go_wp2_with fail
      go_loopw [4, 5] (fun nv kv wr => ∃ (j n : Nat), j ≤ k ∧ kv = .int .i64 (j : Int) ∧ nv = .int .i64 (n : Int) ∧ n ≤ 64 * j ∧ Hid (scanF g k (fs.drop j) ((n : Int) + 1) = scanF g k fs 1) ∧ Turns (fun _ => False) w1 wr)
        (fun _ kv _ => k - (intOf kv).toNat)
      case atStart => exact ⟨0, 0, by omega, rfl, rfl, by omega, Lib.hid rfl, Turns.refl _ _⟩
      case round =>
        obtain ⟨j, n, hj, rfl, rfl, hn, hsp, T⟩ := hrel
        have c1 := T.cell c1 (fun x => x)
        have c0 := T.cell c0 (fun x => x)
        by_cases hlt : j < k
        · obtain ⟨l, hl⟩ : ∃ l, fs[j]? = some l := ⟨_, List.getElem?_eq_getElem (by rw [HN.out]; exact hlt)⟩
          obtain ⟨b, o, u, rfl, hc, ⟨hLm, ao', cap', rfl, hI⟩⟩ := HF.out j l hl
          have hc1 := (HT1.out.then T).cell hc (fun x => x)
          have hL64 : l.length ≤ 64 := by
            have := List.all_eq_true.1 HA.out l (List.mem_of_getElem? hl)
            simp [sizeB] at this
            omega
          have hLL : l.length = l.length := rfl
          generalize hL : l.length = L at hc1 hLm hL64
          have HL := Lib.hid hL
          have Hl := Lib.hid hl
          have HI := Lib.hid hI
          have HT := Lib.hid T
          clear hL hLL hI hc hl T
          have hbds := Lib.hid (show ¬ (fs.length < 1 ∨ 16 < fs.length ∨ g < 0 ∨ 32 < g) by rw [HN.out]; omega)
          have hkk : (Lit.int .i64 (k : Int)).wf = true := WalkArith.wf_i64 (by omega)
          have hLw : (Lit.int .i64 (L : Int)).wf = true := WalkArith.wf_i64 (by omega)
          go_wp2_with fail
          go_loopw [4, 6] (fun mv iv wr2 => ∃ (i m : Nat), i ≤ L ∧ iv = .int .i64 (i : Int) ∧ mv = .int .i64 (m : Int) ∧ m ≤ 64 * j + i ∧ Hid (scanL g k L (l.drop i) ((m : Int) + 1) = scanL g k L l ((n : Int) + 1) ∧ m = n + i) ∧ Turns (fun _ => False) wr wr2)
            (fun _ iv _ => L - (intOf iv).toNat)
          case atStart => exact ⟨0, n, by omega, rfl, rfl, by omega, Lib.hid ⟨rfl, rfl⟩, Turns.refl _ _⟩
          case round =>
            obtain ⟨i, m, hi, rfl, rfl, hm, hsi, TI⟩ := hrel
            have c1 := TI.cell c1 (fun x => x)
            have c0 := TI.cell c0 (fun x => x)
            have hc1 := TI.cell hc1 (fun x => x)
            by_cases hiL : i < L
            · obtain ⟨x, hx⟩ : ∃ x, l[i]? = some x := ⟨_, List.getElem?_eq_getElem (by rw [HL.out]; exact hiL)⟩
              obtain ⟨b', o', rfl, hcx⟩ := HI.out i x hx
              have T3 := (HT1.out.then HT.out).then TI
              have x0 := T3.cell (hcx 0 _ rfl) (fun x => x)
              have x1 := T3.cell (hcx 1 _ rfl) (fun x => x)
              have x2 := T3.cell (hcx 2 _ rfl) (fun x => x)
              have x3 := T3.cell (hcx 3 _ rfl) (fun x => x)
              simp only [Nat.add_zero] at x0
              have Hx := Lib.hid hx
              have HTI := Lib.hid TI
              have C := fun w => rwrong_any g k L x w
              have i0 : (0 : Int) ≤ (j : Int) := by omega
              have i1 : (j : Int) < (k : Int) := by omega
              have i2 : (0 : Int) ≤ (i : Int) := by omega
              have i3 : (i : Int) < (L : Int) := by omega
              clear T3 hcx hx TI
              go_wp2_with fail
              go_still_tail 19, (by kernel_rfl)
              change wpList _ _ _ _ _ wr.drew
              clear i0 i1 i2 i3
              go_wp2_with fail
              refine (C _).mono ?_
              clear C x0 x1 x2 x3
              rintro e w7 ⟨rfl, T7⟩
              have HT7 := Lib.hid (HTI.out.drew.then T7)
              clear T7
              by_cases hw : 0 ≤ wrongI g k L x
              · have hd : decide (0 ≤ wrongI g k L x) = true := by simpa using hw
                have HE := Lib.hid (mayI_err hbds.out HA.out (by rw [HN.out, ← hsp.out]; exact scanF_err Hl.out (by rw [HL.out, ← hsi.out.1, scanL_step Hx.out, if_pos hw])))
                clear hw
                generalize wrongI g k L x = wi at hd
                go_wp2_with fail
                go_ret
                exact ⟨ret_int (by rw [HE.out]; omega), (HT1.out.then HT.out).then HT7.out⟩
              · have hd : decide (0 ≤ wrongI g k L x) = false := by simpa using hw
                have HE : Hid (scanL g k L (l.drop (i + 1)) (((m + 1 : Nat) : Int) + 1) = scanL g k L l ((n : Int) + 1)) := Lib.hid (by rw [← hsi.out.1, scanL_step Hx.out, if_neg hw, show ((m + 1 : Nat) : Int) = (m : Int) + 1 from by omega])
                clear hw
                generalize wrongI g k L x = wi at hd
                go_wp2_with fail
                go_roundw
                case rel => exact ⟨i + 1, m + 1, by omega, by go_num, by go_num, by omega, Lib.hid ⟨HE.out, by have := hsi.out.2; omega⟩, HT7.out⟩
                case measure => simp [intOf]; omega
            · obtain rfl : i = L := by omega
              have HE : Hid (scanF g k (fs.drop (j + 1)) ((m : Int) + 1) = scanF g k fs 1) := Lib.hid (by
                rw [← hsp.out]
                refine (scanF_ok Hl.out ?_).symm
                rw [HL.out, ← hsi.out.1, ← HL.out, List.drop_length]; rfl)
              have HTI := Lib.hid (HT.out.then TI)
              have hmn : m ≤ 64 * (j + 1) := by have := hsi.out.2; omega
              clear TI
              go_wp2_with fail
              go_roundw
              case rel => exact ⟨j + 1, m, by omega, by go_num, rfl, hmn, HE, HTI.out⟩
              case measure => simp [intOf]; omega
        · obtain rfl : j = k := by omega
          have HE := Lib.hid (mayI_none (show ¬ (fs.length < 1 ∨ 16 < fs.length ∨ g < 0 ∨ 32 < g) by rw [HN.out]; omega) HA.out (by rw [HN.out, ← hsp.out, ← HN.out, List.drop_length]; rfl))
          have HT := Lib.hid (HT1.out.then T)
          clear T
          go_wp2_with fail
          go_ret
          exact ⟨ret_int HE.out.symm, HT.out⟩
end Go.Proofs.Ytedgeoigapilnaa
