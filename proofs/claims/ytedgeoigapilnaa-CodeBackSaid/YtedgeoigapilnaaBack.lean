/- code: the walk of CodeBack. -/
import Derived.Test.YtedgeoigapilnaaHelp
namespace Go.Proofs.Ytedgeoigapilnaa
open Go.RowKit

set_option maxHeartbeats 4000000 in
set_option maxRecDepth 100000 in
theorem back_walk {w : World} (v : Value) (p : Pr) (h : IsProg w v p) (c : Int) (wc : (Lit.int .u8 c).wf = true) :
    Calls Try.prog 3 #[v, .int .u8 c] w fun e w' => e = .returned (.bool true) ∧ Below w.heap.size w w' := by
  obtain ⟨fv, rfl, wg, F⟩ := h
  obtain ⟨w1, hw1⟩ : ∃ w1, w.alloc (.cells #[.int .i64 p.g, fv] 24) = w1 := ⟨_, rfl⟩
  have R1 : Row w1 w.heap.size 24 [.int .i64 p.g, fv] := by subst hw1; exact heap_new rfl
  have T1 : Turns (fun _ => False) w w1 := by subst hw1; exact (Turns.refl _ _).alloc _
  have HF := Lib.hid (F.later T1)
  have HT1 := Lib.hid T1
  have HR1 := Lib.hid R1
  have H1 := Lib.hid hw1
  obtain ⟨hmax, ao, cap, hfv, _⟩ := F
  have hLL : p.fs.length = p.fs.length := rfl
  generalize p.fs.length = N at hfv
  subst hfv
  have hcr := u8_range wc
  have HC := Lib.hid hcr
  clear hw1 T1 R1 hmax hLL wc hcr
  go_enter Try.func3, Try.ntmps3
  go_wp2_with fail
  rw [H1.out]
  refine (great_any p.g p.fs _ _ HF.out).mono ?_
  rintro e w2 ⟨⟨b, rfl⟩, T2⟩
  cases b with
  | true =>
    go_wp2_with fail
    refine (told_any _).mono ?_
    rintro e w3 ⟨rfl, T3⟩
    go_wp2_with fail
    go_ret
    exact ⟨rfl, below_of ((HT1.out.then T2).then T3)⟩
  | false =>
    have R2 := HR1.out.later T2 (fun x => x)
    have c0 := R2.cell 0 _ rfl
    have c1 := R2.cell 1 _ rfl
    have HF2 := Lib.hid (HF.out.later T2)
    have HT2 := Lib.hid (HT1.out.then T2)
    clear T2 R2
    by_cases hm : mayI p = 0
    · have CE := enc_ok (w := w2) wg HF2.out hm
      have CM := fun w' (T : Turns (fun _ => False) w2 w') => may_any p _ w' wg (HF2.out.later T)
      have HGd := Lib.hid (mayI_good hm)
      rw [hm] at CM
      have HLe := Lib.hid (encI_le (mayI_good hm))
      have HGe := Lib.hid (encI_ge (mayI_good hm))
      have HB := Lib.hid (decR_back (mayI_good hm))
      have HL1 := Lib.hid (decR_less (mayI_good hm))
      have HM1 := Lib.hid (decR_more1 (mayI_good hm) c)
      have HRg := Lib.hid (encI_range (mayI_good hm))
      clear hm
      generalize encI p = zs at CE HLe HGe HB HL1 HM1 HRg
      have hLL : zs.length = zs.length := rfl
      generalize hL : zs.length = L at CE HLe HGe HL1 HM1
      have HL := Lib.hid hL
      clear hL hLL
      go_wp2_with fail
      refine CE.mono ?_
      clear CE
      rintro e w3 ⟨a, bc, rfl, IB, hbc, hbm, hlow, T3⟩
      have c0 := T3.cell c0 (fun x => x)
      have c1 := T3.cell c1 (fun x => x)
      have CM3 := CM w3 T3
      have HIB := Lib.hid IB
      have HT3 := Lib.hid (HT2.out.then T3)
      have HF3 := Lib.hid (HF2.out.later T3)
      clear T3 IB hlow CM
      go_wp2_with fail
      refine CM3.mono ?_
      clear CM3
      rintro e w4 ⟨rfl, T4⟩
      have c0 := T4.cell c0 (fun x => x)
      have c1 := T4.cell c1 (fun x => x)
      have HT4 := Lib.hid (HT3.out.then T4)
      have HIB4 := Lib.hid (HIB.out.later T4 (fun _ _ _ x => x))
      have HF4 := Lib.hid (HF3.out.later T4)
      have d7 : decide ((L : Int) < 7) = false := by have := HGe.out; simp; omega
      clear T4 HIB HF3
      go_wp2_with fail
      refine (dec_ok (p := p) HIB4.out (by have := HLe.out; omega) HB.out).mono ?_
      rintro e w5 ⟨v5, rfl, F5, T5⟩
      obtain ⟨_, ao5, cap5, hv5, _⟩ := id F5
      generalize hN5 : p.fs.length = N5 at hv5
      subst hv5
      obtain ⟨w6, hw6⟩ : ∃ w6, w5.alloc (.cells #[.int .i64 p.g, .slice ao5 N5 cap5] 24) = w6 := ⟨_, rfl⟩
      have R6 : Row w6 w5.heap.size 24 [.int .i64 p.g, .slice ao5 N5 cap5] := by subst hw6; exact heap_new rfl
      have T6 : Turns (fun _ => False) w5 w6 := by subst hw6; exact (Turns.refl _ _).alloc _
      have H6 := Lib.hid hw6
      have HR6 := Lib.hid R6
      have HF6 := Lib.hid (F5.later T6)
      have HT6 := Lib.hid ((HT4.out.then T5).then T6)
      have HIB6 := Lib.hid ((HIB4.out.later T5 (fun _ _ _ x => x)).later T6 (fun _ _ _ x => x))
      have HF6p := Lib.hid ((HF4.out.later T5).later T6)
      have c0 := (T5.then T6).cell c0 (fun x => x)
      have c1 := (T5.then T6).cell c1 (fun x => x)
      have k1 : (0 : Int) ≤ (L : Int) - 1 := by have := HGe.out; omega
      have k2 : ((L : Int) - 1).toNat = L - 1 := by omega
      have k3 : (L : Int) - 1 ≤ (bc : Int) := by omega
      have k4 : L - 1 ≤ bc := by omega
      have k5 := HLe.out
      clear hw6 R6 T6 T5 F5 HIB4 HF4
      go_wp2_with fail
      rw [H6.out]
      refine (dec_bad (HIB6.out.take (L - 1) (by omega)) (by omega) HL1.out).mono ?_
      rintro e w7 ⟨rfl, T7⟩
      have hi1 : ((L - 1 : Nat) : Int) = (L : Int) - 1 := by omega
      rw [hi1]
      clear k1 k2 k3 k4 hi1
      have T8 : Turns (fun _ => False) w6 ((w7.alloc (.cells #[.int .i64 0, .slice none 0 0] 24)).alloc (.cells #[] 5)) := (T7.alloc _).alloc _
      have Z8 : ((w7.alloc (.cells #[.int .i64 0, .slice none 0 0] 24)).alloc (.cells #[] 5)).heap.size = w7.heap.size + 1 + 1 := by simp
      have HT68 := Lib.hid T8
      have H67 := Lib.hid T7.size
      have Hc0 := Lib.hid c0
      have Hc1 := Lib.hid c1
      have HS8 := Lib.hid ((HIB6.out.later T8 (fun _ _ _ x => x)).src (cap := bc) (by have := HGe.out; omega))
      have HN8 := Lib.hid (show View ((w7.alloc (.cells #[.int .i64 0, .slice none 0 0] 24)).alloc (.cells #[] 5)) w7.heap.size 5 1 (.slice (some ⟨w7.heap.size + 1, 0, none⟩) 0 0) 0 [] from View.nil _ _ _ _ _ (fun ad had => by cases had; rw [Z8]; exact ⟨by simp, by simp⟩))
      have HB8 := Lib.hid (show w7.heap.size ≤ ((w7.alloc (.cells #[.int .i64 0, .slice none 0 0] 24)).alloc (.cells #[] 5)).heap.size by rw [Z8]; omega)
      clear T7 T8 Z8 HIB6 H6 c0 c1
      obtain ⟨ti, hti, hz0, hz1, hz2⟩ := info_parts Try.info5
      have Hz0 := Lib.hid hz0
      have Hz1 := Lib.hid hz1
      have Hz2 := Lib.hid hz2
      have Hti := Lib.hid hti
      have K1 := Lib.hid (show 0 + L ≤ maxLen by unfold maxLen; omega)
      have K2 := Lib.hid (show (0 + L) * 1 ≤ 140737488355328 by omega)
      clear hz0 hz1 hz2 hti
      go_wp2_with (first
        | (refine wpList_append_view rfl (.tmp 58) (.tmp 59) 27 5 1 1 _ ti rfl Try.underlying27 Hti.out Hz0.out Hz1.out Hz2.out rfl w7.heap.size (.slice (some ⟨w7.heap.size + 1, 0, none⟩) 0 0) (.slice a L bc) 0 L [] (bytes zs) rfl rfl HN8.out HS8.out K1.out K2.out HB8.out ?_
           intro v9 w9 V9 G9 L9
           have V9' : BV w9 w7.heap.size v9 zs := by unfold BV; rw [HL.out]; simpa only [Nat.zero_add, List.nil_append] using V9
           have T9 := G9.turns.mono (E := fun x => x = w7.heap.size + 1) (fun j h _ => by simp [Value.ownBlock] at h; exact h.symm)
           have TT := HT68.out.trans (E := fun _ => False) T9 (fun j h _ => h) (fun j h h' => by have := H67.out; omega)
           have HV9 := Lib.hid (V9'.later ((Turns.refl (fun _ => False) w9).alloc (.cells #[.int .u8 c] 5)) (fun _ _ x => x))
           have HX9 := Lib.hid (heap_new rfl : (w9.alloc (.cells #[.int .u8 c] 5)).heap[w9.heap.size]? = some (.cells #[.int .u8 c] 5))
           have HTT := Lib.hid (TT.alloc (.cells #[.int .u8 c] 5))
           have HB9 := Lib.hid (show w7.heap.size ≤ (w9.alloc (.cells #[.int .u8 c] 5)).heap.size by have := HB8.out; have := T9.size; simp; omega)
           have K3 := Lib.hid (show zs.length ≤ 100000 by rw [HL.out]; omega)
           clear V9 G9 L9 V9' T9 TT)
        | (refine wpList_append_bytes rfl (.tmp 60) (.tmp 62) rfl w7.heap.size _ zs w9.heap.size 1 1 [c] rfl rfl rfl HV9.out HX9.out K3.out (by simp) HB9.out ?_
           intro v10 w10 V10 G10 L10
           have T10 := G10.turns
           have TT := HTT.out.trans (E := fun _ => False) T10 (fun j h _ => h) (fun j h h' => by have := View.low HV9.out j h; have := H67.out; omega)
           obtain ⟨a10, c10, e10, _, _, IB10, _⟩ := BV.isBytes V10 (fun z hz => by
             rcases List.mem_append.1 hz with h | h
             · exact HRg.out z h
             · rw [List.mem_singleton.1 h]; exact HC.out)
           rw [show (zs ++ [c]).length = L + 1 from by rw [List.length_append, HL.out]; rfl] at e10 IB10
           subst e10
           have HIB10 := Lib.hid IB10
           have HT10 := Lib.hid TT
           clear V10 G10 L10 T10 TT IB10))
      refine (dec_bad HIB10.out (by omega) HM1.out).mono ?_
      rintro e w11 ⟨rfl, T11⟩
      obtain ⟨w12, hw12⟩ : ∃ w12, w11.alloc (.cells #[.int .i64 0, .slice none 0 0] 24) = w12 := ⟨_, rfl⟩
      have T12 : Turns (fun _ => False) w6 w12 := by subst hw12; exact (HT10.out.then T11).alloc _
      have H12 := Lib.hid hw12
      have HT12 := Lib.hid T12
      clear T11 T12 hw12
      go_wp2_with fail
      rw [H12.out]
      refine (told_any _).mono ?_
      rintro e w13 ⟨rfl, T13⟩
      have TF := HT12.out.then T13
      have c0 := TF.cell Hc0.out (fun x => x)
      have c1 := TF.cell Hc1.out (fun x => x)
      have d0 := (HR6.out.later TF (fun x => x)).cell 0 _ rfl
      have d1 := (HR6.out.later TF (fun x => x)).cell 1 _ rfl
      have CS := same_any p.g p.fs _ _ w13 (HF6p.out.later TF) (HF6.out.later TF)
      have HTF := Lib.hid (HT6.out.then TF)
      clear TF T13
      go_wp2_with fail
      refine CS.mono ?_
      clear CS
      rintro e w14 ⟨rfl, T14⟩
      have HT14 := Lib.hid (HTF.out.then T14)
      clear T14
      go_wp2_with fail
      go_ret
      exact ⟨rfl, below_of HT14.out⟩
    · have CE := enc_bad (w := w2) wg HF2.out hm
      have CM := fun w' (T : Turns (fun _ => False) w2 w') => may_any p _ w' wg (HF2.out.later T)
      generalize mayI p = mm at hm CM
      have d1 : (mm == 0) = false := by simpa using hm
      clear hm
      go_wp2_with fail
      refine CE.mono ?_
      clear CE
      rintro e w3 ⟨rfl, T3⟩
      have c0 := T3.cell c0 (fun x => x)
      have c1 := T3.cell c1 (fun x => x)
      have CM3 := CM w3 T3
      have HT3 := Lib.hid (HT2.out.then T3)
      clear T3 CM
      go_wp2_with fail
      refine CM3.mono ?_
      clear CM3
      rintro e w4 ⟨rfl, T4⟩
      have HT4 := Lib.hid (HT3.out.then T4)
      clear T4
      go_wp2_with fail
      refine (told_any _).mono ?_
      rintro e w5 ⟨rfl, T5⟩
      have HT5 := Lib.hid (HT4.out.then T5)
      clear T5
      go_wp2_with fail
      go_ret
      exact ⟨rfl, below_of HT5.out⟩
end Go.Proofs.Ytedgeoigapilnaa
