/- code: Encode by contract. -/
import Derived.Test.YtedgeoigapilnaaBytes
namespace Go.Proofs.Ytedgeoigapilnaa
open Go.RowKit
set_option maxHeartbeats 2000000 in
set_option maxRecDepth 100000 in
theorem encode_any (p : Pr) (v : Value) (w : World) (wg : (Lit.int .i64 p.g).wf = true) (F : Funcs w v p.fs) :
    Calls Try.prog 11 #[.agg #[.int .i64 p.g, v]] w (EncPost w p) := by
  obtain ⟨g, fs⟩ := p
  simp only at F wg
  obtain ⟨w1, hw1⟩ : ∃ w1, w.alloc (.cells #[.int .i64 g, v] 24) = w1 := ⟨_, rfl⟩
  have R1 : Row w1 w.heap.size 24 [.int .i64 g, v] := by subst hw1; exact heap_new rfl
  have T1 : Turns (fun _ => False) w w1 := by subst hw1; exact (Turns.refl _ _).alloc _
  have C := may_any ⟨g, fs⟩ v w1 wg (F.later T1)
  obtain ⟨hmax, ao, cap, rfl, hF⟩ := F
  have hNN : fs.length = fs.length := rfl
  generalize hN : fs.length = N at hmax R1 hw1 C ⊢
  have H1 := Lib.hid hw1
  have HN := Lib.hid hN
  have HF := Lib.hid hF
  have c0 := R1.cell 0 _ rfl
  have c1 := R1.cell 1 _ rfl
  have HT1 := Lib.hid T1
  clear hw1 hN hF hNN T1
  by_cases hm : mayI ⟨g, fs⟩ = 0
  · have G := mayI_good hm
    have hn16 := G.n16
    have hg0 := G.g0
    have hg32 := G.g32
    simp only at hn16 hg0 hg32
    rw [HN.out] at hn16
    have HG := Lib.hid G
    clear G
    generalize hmm : mayI ⟨g, fs⟩ = mm at C hm
    subst hm
    have HM := Lib.hid hmm
    clear hmm
    go_enter Try.func11, Try.ntmps11
    go_wp2_with fail
    rw [H1.out]
    refine C.mono ?_
    clear C
    rintro e w2 ⟨rfl, T2⟩
    have k0 := T2.cell c0 (fun x => x)
    have k1 := T2.cell c1 (fun x => x)
    have l2 : w.heap.size < w2.heap.size := by have := R1.lt; have := T2.size; omega
    obtain ⟨w3, hw3⟩ : ∃ w3, w2.alloc (.cells #[.int .u8 (N : Int), .int .u8 g] 5) = w3 := ⟨_, rfl⟩
    have BV0 : BV w3 w1.heap.size (.slice (some ⟨w2.heap.size, 0, none⟩) 2 2) ((N : Int) :: g :: (fs.take 0).flatMap encL) := by
      subst hw3
      exact BV.lits _ _ [(N : Int), g] w2.heap.size (heap_new rfl) T2.size (by simp)
    have HB0 := Lib.hid BV0
    have T3 : Turns (fun _ => False) w1 w3 := by subst hw3; exact T2.alloc _
    have HT3 := Lib.hid T3
    have HW3 := Lib.hid hw3
    clear T2 BV0 T3 hw3
    go_wp2_with fail
    rw [HW3.out]
    clear HW3 k0 k1 l2 H1
    go_loopw [4, 23] (fun bv kv wr => ∃ k : Nat, k ≤ N ∧ kv = .int .i64 (k : Int) ∧ BV wr w1.heap.size bv ((N : Int) :: g :: (fs.take k).flatMap encL) ∧ Hid (((fs.take k).flatMap encL).length ≤ k * 257) ∧ Turns (fun _ => False) w1 wr)
      (fun _ kv _ => N - (intOf kv).toNat)
    case atStart => exact ⟨0, by omega, rfl, HB0.out, Lib.hid (by simp), HT3.out⟩
    case round =>
      clear HB0 HT3
      obtain ⟨k, hk, rfl, V, hlen, T⟩ := hrel
      by_cases hlt : k < N
      · obtain ⟨l, hl⟩ : ∃ l, fs[k]? = some l := ⟨_, List.getElem?_eq_getElem (by rw [HN.out]; exact hlt)⟩
        obtain ⟨b, o, u, rfl, hc, ⟨hLm, ao', cap', rfl, hI⟩⟩ := HF.out k l hl
        have hc1 := (HT1.out.then T).cell hc (fun x => x)
        have hL64 := (HG.out.size l (List.mem_of_getElem? hl)).2
        have hLL : l.length = l.length := rfl
        generalize hL : l.length = L at hc1 hLm hL64
        have HL := Lib.hid hL
        have Hl := Lib.hid hl
        have HI := Lib.hid hI
        have HV := Lib.hid (V.later ((Turns.refl (fun _ => False) wr).alloc (.cells #[.int .u8 (L : Int)] 5)) (fun _ _ x => x))
        have HX := Lib.hid (heap_new rfl : (wr.alloc (.cells #[.int .u8 (L : Int)] 5)).heap[wr.heap.size]? = some (.cells #[.int .u8 (L : Int)] 5))
        have HT := Lib.hid (T.alloc (.cells #[.int .u8 (L : Int)] 5))
        have hz : ((N : Int) :: g :: (fs.take k).flatMap encL).length ≤ 100000 := by have := hlen.out; simp only [List.length_cons]; omega
        have HZ := Lib.hid hz
        clear hL hLL hI hc hl T V hz
        go_wp2_with (
          refine wpList_append_bytes rfl (.tmp 27) (.tmp 31) rfl w1.heap.size _ _ wr.heap.size 1 1 [(L : Int)] rfl rfl rfl HV.out HX.out HZ.out (by simp) HT.out.size ?_
          intro v4 w4 V4 G4 L4
          have HV4 := Lib.hid V4
          have HT4 := Lib.hid (HT.out.trans (E := fun _ => False) G4.turns (fun j h _ => h) (fun j h h' => by have := View.low HV.out j h; omega))
          clear V4 G4 L4)
        clear HV HX HT
        go_loopw [4, 35] (fun bv iv wr => ∃ i : Nat, i ≤ L ∧ iv = .int .i64 (i : Int) ∧ BV wr w1.heap.size bv (((N : Int) :: g :: (fs.take k).flatMap encL) ++ (L : Int) :: (l.take i).flatMap encX) ∧ Turns (fun _ => False) w1 wr)
          (fun _ iv _ => L - (intOf iv).toNat)
        case atStart => exact ⟨0, by omega, rfl, HV4.out, HT4.out⟩
        case round =>
          clear HV4 HT4
          obtain ⟨i, hi, rfl, V, T⟩ := hrel
          have hil : ((l.take i).flatMap encX).length = i * 4 := by rw [encX_len, List.length_take, HL.out, Nat.min_eq_left hi]
          by_cases hiL : i < L
          · obtain ⟨x, hx⟩ : ∃ x, l[i]? = some x := ⟨_, List.getElem?_eq_getElem (by rw [HL.out]; exact hiL)⟩
            obtain ⟨b', o', rfl, hcx⟩ := HI.out i x hx
            have T3 := HT1.out.then T
            have x0 := T3.cell (hcx 0 _ rfl) (fun x => x)
            have x1 := T3.cell (hcx 1 _ rfl) (fun x => x)
            have x2 := T3.cell (hcx 2 _ rfl) (fun x => x)
            have x3 := T3.cell (hcx 3 _ rfl) (fun x => x)
            simp only [Nat.add_zero] at x0
            have gx := HG.out.bytes (List.mem_of_getElem? Hl.out) (List.mem_of_getElem? hx)
            have y0 := gx x.op (by simp [encX])
            have y1 := gx x.a (by simp [encX])
            have y2 := gx x.b (by simp [encX])
            have y3 := gx x.c (by simp [encX])
            clear gx
            have Hx := Lib.hid hx
            have hz : (((N : Int) :: g :: (fs.take k).flatMap encL) ++ (L : Int) :: (l.take i).flatMap encX).length ≤ 100000 := by have := hlen.out; simp only [List.length_append, List.length_cons]; omega
            have HZ2 := Lib.hid hz
            have HV := Lib.hid (V.later (((Turns.refl (fun _ => False) wr).alloc (.cells #[.int .i64 x.op, .int .i64 x.a, .int .i64 x.b, .int .i64 x.c] 37)).alloc (.cells #[.int .u8 x.op, .int .u8 x.a, .int .u8 x.b, .int .u8 x.c] 5)) (fun _ _ x => x))
            have HX := Lib.hid (heap_new (by simp) : ((wr.alloc (.cells #[.int .i64 x.op, .int .i64 x.a, .int .i64 x.b, .int .i64 x.c] 37)).alloc (.cells #[.int .u8 x.op, .int .u8 x.a, .int .u8 x.b, .int .u8 x.c] 5)).heap[wr.heap.size + 1]? = some (.cells #[.int .u8 x.op, .int .u8 x.a, .int .u8 x.b, .int .u8 x.c] 5))
            have HT := Lib.hid ((T.alloc (.cells #[.int .i64 x.op, .int .i64 x.a, .int .i64 x.b, .int .i64 x.c] 37)).alloc (.cells #[.int .u8 x.op, .int .u8 x.a, .int .u8 x.b, .int .u8 x.c] 5))
            clear T3 hcx hx V T hz hil
            go_wp2_with (
              refine wpList_append_bytes rfl (.tmp 39) (.tmp 52) rfl w1.heap.size _ _ (wr.heap.size + 1) 4 4 [x.op, x.a, x.b, x.c] rfl rfl rfl HV.out HX.out HZ2.out (by simp) HT.out.size ?_
              intro v5 w5 V5 G5 L5
              have HV5 := Lib.hid V5
              have HT5 := Lib.hid (HT.out.trans (E := fun _ => False) G5.turns (fun j h _ => h) (fun j h h' => by have := View.low HV.out j h; omega))
              clear V5 G5 L5)
            go_roundw
            case rel =>
              refine ⟨i + 1, by omega, by go_num, ?_, HT5.out⟩
              have h5 := HV5.out
              rw [List.append_assoc, List.cons_append] at h5
              rw [List.take_add_one, Hx.out, List.flatMap_append]
              exact h5
            case measure => simp [intOf]; omega
          · obtain rfl : i = L := by omega
            have HV := Lib.hid V
            have HT := Lib.hid T
            have hil2 := Lib.hid hil
            clear V T hil
            go_wp2_with fail
            go_roundw
            case rel =>
              have e1 : l.take i = l := by rw [← HL.out, List.take_length]
              have e2 : (fs.take (k + 1)).flatMap encL = (fs.take k).flatMap encL ++ (i : Int) :: (l.take i).flatMap encX := by
                rw [List.take_add_one, Hl.out, List.flatMap_append, e1]
                simp [encL, HL.out]
              refine ⟨k + 1, by omega, by go_num, ?_, ?_, HT.out⟩
              · rw [e2]
                have h := HV.out
                simpa only [List.cons_append] using h
              · refine Lib.hid ?_
                have a := hlen.out
                have b := hil2.out
                rw [e2]
                simp only [List.length_append, List.length_cons]
                omega
            case measure => simp [intOf]; omega
      · obtain rfl : k = N := by omega
        have HV := Lib.hid V
        have HT := Lib.hid T
        clear V T
        go_wp2_with fail
        go_ret2
        refine ⟨HT1.out.then HT.out, fun h => absurd HM.out h, fun _ => ⟨_, rfl, ?_⟩⟩
        have h := HV.out
        rw [← HN.out, List.take_length] at h
        exact View.base h HT1.out.size
  · have h2 : (mayI ⟨g, fs⟩ != 0) = true := by simpa using hm
    have HS := Lib.hid hm
    clear hm
    generalize hmm : mayI ⟨g, fs⟩ = mm at C h2
    have HM := Lib.hid hmm
    clear hmm
    go_enter Try.func11, Try.ntmps11
    go_wp2_with fail
    rw [H1.out]
    refine C.mono ?_
    clear C
    rintro e w2 ⟨rfl, T2⟩
    go_wp2_with fail
    go_ret2
    exact ⟨HT1.out.then T2, fun _ => rfl, fun h => absurd h HS.out⟩
end Go.Proofs.Ytedgeoigapilnaa
