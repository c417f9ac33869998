/- roots: the document's own list of jobs. -/
import Derived.Test.YtpbpnoohbfchgaaInts
namespace Go.Proofs.Ytpbpnoohbfchgaa
open Go.RowKit

set_option maxHeartbeats 1000000 in
set_option maxRecDepth 100000 in
theorem ref_any (G : Int) (a : Option Addr) (n cap : Nat) (gs : List Int) (w : World) (hG : G ≤ 1000) (hn : n ≤ 1000) (hi : IsInts w a n gs) :
    Calls Try.prog 10 #[.int .i64 G, .slice a n cap] w fun e w' => (∃ v, e = .returned v ∧ JV w' w.heap.size v (jobs G gs)) ∧ Turns (fun _ => False) w w' := by
  go_enter Try.func10, Try.ntmps10
  go_wp2_with fail
  go_loopw [5, 6] (fun ov f wr => ∃ (k : Nat), k ≤ gn G ∧ f = .int .i64 (8 * (k : Int)) ∧ JV wr w.heap.size ov (gj G k) ∧ Turns (fun _ => False) w wr)
    (fun _ f _ => gn G - (intOf f).toNat / 8)
  case atStart => exact ⟨0, by omega, rfl, View.zero _ _ _ _, Turns.refl _ _⟩
  case round =>
    obtain ⟨k, hk, rfl, I, T⟩ := hrel
    have hkk := gn_lt G k
    have hgn : gn G ≤ 126 := by unfold gn; omega
    by_cases hlt : k < gn G
    · have hlt' : 8 * (k : Int) < G := hkk.2 hlt
      have HK := Lib.hid (gj_length G k)
      clear hkk
      by_cases hm : 8 * (k : Int) + 8 ≤ G
      · have hmin : min (8 * (k : Int) + 8) G = 8 * (k : Int) + 8 := by omega
        have hnew := gj_succ G k
        rw [hmin] at hnew
        have HN := Lib.hid hnew
        have ha := (Turns.refl (fun _ => False) wr).alloc (.cells #[.int .i64 (-1), .int .i64 (8 * (k : Int)), .int .i64 (8 * (k : Int) + 8)] 28)
        have I2 := I.later ha (fun _ _ x => x)
        have HT := Lib.hid (T.then ha)
        have HL := Lib.hid (View.low I)
        have hz := T.size
        have HI2 := Lib.hid I2
        clear hmin hnew T I ha I2
        go_wp2_with (at_builtin; refine wpList_append_job rfl (.tmp 13) (.tmp 20) rfl w.heap.size u5 (gj G k) ⟨wr.heap.size, 0, none⟩ 1 ⟨-1, 8 * (k : Int), 8 * (k : Int) + 8⟩ rfl rfl HI2.out (by simp [Addr.add]) (by simp [Addr.add]) (by simp [Addr.add]) ?b1 ?b2 ?_)
        case b1 => rw [HK.out]; omega
        case b2 => first | omega | (simp; omega)
        intro v' w2 hv' hg _
        rw [← HN.out] at hv'
        have HI := Lib.hid hv'
        have hT3 := HT.out.trans hg.turns (E := fun _ => False) (fun _ x _ => x) (fun j x hj => by have := HL.out j x; omega)
        have HT3 := Lib.hid hT3
        clear hT3 hg hv' HI2 HT HL HN HK
        go_wp2_with fail
        go_roundw
        case rel => exact ⟨k + 1, by omega, by go_num, HI.out, HT3.out⟩
        case measure => simp [intOf]; omega
      · have hmin : min (8 * (k : Int) + 8) G = G := by omega
        have hnew := gj_succ G k
        rw [hmin] at hnew
        have HN := Lib.hid hnew
        have ha := (Turns.refl (fun _ => False) wr).alloc (.cells #[.int .i64 (-1), .int .i64 (8 * (k : Int)), .int .i64 (G)] 28)
        have I2 := I.later ha (fun _ _ x => x)
        have HT := Lib.hid (T.then ha)
        have HL := Lib.hid (View.low I)
        have hz := T.size
        have HI2 := Lib.hid I2
        clear hmin hnew T I ha I2
        go_wp2_with (at_builtin; refine wpList_append_job rfl (.tmp 13) (.tmp 20) rfl w.heap.size u5 (gj G k) ⟨wr.heap.size, 0, none⟩ 1 ⟨-1, 8 * (k : Int), G⟩ rfl rfl HI2.out (by simp [Addr.add]) (by simp [Addr.add]) (by simp [Addr.add]) ?b1 ?b2 ?_)
        case b1 => rw [HK.out]; omega
        case b2 => first | omega | (simp; omega)
        intro v' w2 hv' hg _
        rw [← HN.out] at hv'
        have HI := Lib.hid hv'
        have hT3 := HT.out.trans hg.turns (E := fun _ => False) (fun _ x _ => x) (fun j x hj => by have := HL.out j x; omega)
        have HT3 := Lib.hid hT3
        clear hT3 hg hv' HI2 HT HL HN HK
        go_wp2_with fail
        go_roundw
        case rel => exact ⟨k + 1, by omega, by go_num, HI.out, HT3.out⟩
        case measure => simp [intOf]; omega
    · have hke : k = gn G := by omega
      subst hke
      have hge : ¬ 8 * (gn G : Int) < G := fun h => hlt (hkk.1 h)
      clear hkk hlt
      have HI := Lib.hid I
      have HT := Lib.hid T
      clear I T
      go_wp2_with fail

      go_loopw [5, 7] (fun ov f wr => ∃ (k : Nat), k ≤ n ∧ f = .int .i64 (k : Int) ∧ JV wr w.heap.size ov (gj G (gn G) ++ (gs.map st).take k) ∧ Turns (fun _ => False) w wr)
        (fun _ f _ => n - (intOf f).toNat)
      case atStart => exact ⟨0, by omega, rfl, by simpa using HI.out, HT.out⟩
      case round =>
        clear HI HT
        obtain ⟨k, hk2, rfl, I, T⟩ := hrel
        by_cases hlt : k < n
        · have II := hi.later T
          obtain ⟨gb, goff, rfl, hgb, hgc⟩ := II.2 (by omega)
          have hg1 := hgc k hlt
          clear hgc
          have hlen : (gj G (gn G) ++ (gs.map st).take k).length = gn G + k := by simp [gj_length, hi.1]; omega
          have htk : (gs.map st).take (k + 1) = (gs.map st).take k ++ [st (gs.getD k 0)] := by
            rw [List.take_add_one]; simp [hi.1, hlt, List.getD_eq_getElem?_getD]
          have HLn := Lib.hid hlen
          have HK := Lib.hid htk
          clear htk hlen
          generalize gs.getD k 0 = g at hg1 HK
          have ha := (Turns.refl (fun _ => False) wr).alloc (.cells #[.int .i64 g, .int .i64 0, .int .i64 16] 28)
          have HI2 := Lib.hid (I.later ha (fun _ _ x => x))
          have HT := Lib.hid (T.then ha)
          have HL := Lib.hid (View.low I)
          have hz := T.size
          clear I T ha II
          go_wp2_with (at_builtin; refine wpList_append_job rfl (.tmp 28) (.tmp 34) rfl w.heap.size u5 _ ⟨wr.heap.size, 0, none⟩ 1 (st g) rfl rfl HI2.out (by simp [Addr.add, st]) (by simp [Addr.add, st]) (by simp [Addr.add, st]) ?b1 ?b2 ?_)
          case b1 => rw [HLn.out]; omega
          case b2 => first | omega | (simp; omega)
          intro v' w2 hv' hg _
          rw [← HK.out] at hv'
          have HI := Lib.hid hv'
          have hT3 := HT.out.trans hg.turns (E := fun _ => False) (fun _ x _ => x) (fun j x hj => by have := HL.out j x; omega)
          have HT3 := Lib.hid hT3
          clear hT3 hg hv' HI2 HT HL HK HLn
          go_wp2_with fail
          go_roundw
          case rel => exact ⟨k + 1, by omega, by go_num, HI.out, HT3.out⟩
          case measure => simp [intOf]; omega
        · have hke : n = k := by omega
          subst hke
          have ht : (gs.map st).take n = gs.map st := List.take_of_length_le (by simp [hi.1])
          rw [ht] at I
          have HI := Lib.hid I
          have HT := Lib.hid T
          clear I T hlt
          go_wp2_with fail
          go_ret
          exact ⟨⟨_, rfl, HI.out⟩, HT.out⟩
end Go.Proofs.Ytpbpnoohbfchgaa
