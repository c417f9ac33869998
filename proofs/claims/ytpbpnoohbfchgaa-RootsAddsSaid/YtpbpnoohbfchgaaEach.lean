/- roots: the walk of RootsEach. -/
import Derived.Test.YtpbpnoohbfchgaaInts
namespace Go.Proofs.Ytpbpnoohbfchgaa
open Go.RowKit

theorem jobs_length (G k : Nat) : (jobs G (up k)).length = gn G + k := by simp [jobs, gj_length, up_length]
theorem drop_at (js : List J) (p : Nat) (j : J) (h : js[p]? = some j) : js.drop p = j :: js.drop (p + 1) := by
  have hp : p < js.length := (List.getElem?_eq_some_iff.1 h).1
  rw [List.drop_eq_getElem_cons hp]
  congr 1
  exact (List.getElem?_eq_some_iff.1 h).2
theorem jobs_at1 (G k p : Nat) (h : p < gn G) : (jobs G (up k)).drop p = ⟨-1, 8 * (p : Int), min (8 * (p : Int) + 8) G⟩ :: (jobs G (up k)).drop (p + 1) := by
  refine drop_at _ _ _ ?_
  unfold jobs
  rw [List.getElem?_append_left (by rw [gj_length]; exact h)]
  simp [gj, h]
theorem jobs_at2 (G k q : Nat) (h : q < k) : (jobs G (up k)).drop (gn G + q) = st q :: (jobs G (up k)).drop (gn G + q + 1) := by
  refine drop_at _ _ _ ?_
  unfold jobs
  rw [List.getElem?_append_right (by rw [gj_length]; omega), gj_length]
  rw [show gn G + q - gn G = q from by omega]
  simp [up, h]

set_option maxHeartbeats 1000000 in
set_option maxRecDepth 100000 in
theorem each_any (x y : Int) (w : World) : Calls Try.prog 3 #[.int .i64 x, .int .i64 y] w fun e w' => e = .returned (.bool true) ∧ Turns (fun _ => False) w w' := by
  obtain ⟨G, hG, hx⟩ := mod_idx x 101 (by omega) (by omega)
  obtain ⟨n, hn, hy⟩ := mod_idx y 51 (by omega) (by omega)
  have hx' : wrap64 ((IntKind.u64.wrap x).tmod 101) = (G : Int) := hx
  have hy' : wrap64 ((IntKind.u64.wrap y).tmod 51) = (n : Int) := hy
  clear hx hy
  go_enter Try.func3, Try.ntmps3
  go_wp2_with fail
  rw [hx', hy']
  clear hx' hy'
  go_loopw [7, 8] (fun vv f wr => ∃ (k : Nat), k ≤ n ∧ f = .int .i64 (k : Int) ∧ IV wr w.heap.size vv (up k) ∧ Turns (fun _ => False) w wr)
    (fun _ f _ => n - (intOf f).toNat)
  case atStart => exact ⟨0, by omega, rfl, View.zero _ _ _ _, Turns.refl _ _⟩
  case round =>
    obtain ⟨k, hk, rfl, I, T⟩ := hrel
    by_cases hlt : k < n
    · have HK := Lib.hid (up_succ k)
      have hl := up_length k
      have hz := T.size
      have ha := (Turns.refl (fun _ => False) wr).alloc (.cells #[.int .i64 (k : Int)] 3)
      have I2 := I.later ha (fun _ _ x => x)
      have HT := Lib.hid (T.then ha)
      have HL := Lib.hid I.low
      clear I T ha
      go_wp2_with (at_builtin; refine wpList_append_int rfl (.tmp 27) (.tmp 29) rfl w.heap.size u7 (up k) ⟨wr.heap.size, 0, none⟩ 1 (k : Int) rfl rfl I2 (by simp [Addr.add]) ?b1 ?b2 ?_)
      case b1 => omega
      case b2 => simp; omega
      intro v' w2 hv' hg _
      rw [← HK.out] at hv'
      have HI := Lib.hid hv'
      have hT3 := HT.out.trans hg.turns (E := fun _ => False) (fun _ x _ => x) (fun j x hj => by have := HL.out j x; omega)
      have HT3 := Lib.hid hT3
      clear hT3 hg hv' I2 HT HL hl
      go_wp2_with fail
      go_roundw
      case rel => exact ⟨k + 1, by omega, by go_num, HI.out, HT3.out⟩
      case measure => simp [intOf]; omega
    · have hke : k = n := by omega
      subst hke
      obtain ⟨ao, cap, hv, hI⟩ := I.isInts
      rw [up_length] at hv hI
      subst hv
      have C := St.new T (G : Int) ao k cap (up k) (by omega) (by omega) hI
      have hgn : gn G ≤ 13 := by unfold gn; omega
      have hdiv : ((G : Int) + 7).tdiv 8 = (gn G : Int) := by
        rw [Int.tdiv_eq_ediv_of_nonneg (by omega)]; unfold gn; omega
      have hlen := jobs_length G k
      clear I hI T hlt hk
      go_wp2_with fail
      refine C.mono ?_
      clear C
      rintro e w2 ⟨rfl, v, S⟩
      generalize wr.heap.size = b at S
      have C := S.left
      rw [hlen] at C
      go_wp2_with fail
      refine C.mono ?_
      rintro e w' ⟨rfl, rfl⟩
      clear C
      go_wp2_with fail
      clear hdiv
      go_loopw [10, 11] (fun nx wh wr => ∃ (p : Nat) (v : Value), St w wr b v ((jobs G (up k)).drop p) ∧ p ≤ gn G + k ∧ ((p < gn G ∧ nx = .int .i64 (8 * (p : Int)) ∧ wh = .int .i64 0) ∨ (∃ q : Nat, p = gn G + q ∧ nx = .int .i64 (G : Int) ∧ wh = .int .i64 (q : Int))))
        (fun nx wh _ => (G - (intOf nx).toNat) + (k - (intOf wh).toNat))
      case atStart =>
        refine ⟨0, v, by simpa using S, by omega, ?_⟩
        by_cases h0 : 0 < gn G
        · exact .inl ⟨h0, rfl, rfl⟩
        · refine .inr ⟨0, by omega, ?_, rfl⟩
          have : (G : Int) = 0 := by unfold gn at h0; omega
          rw [this]
      case round =>
        clear S
        obtain ⟨p, v2, S, hp, hcase⟩ := hrel
        rcases hcase with ⟨hpg, rfl, rfl⟩ | ⟨q, rfl, rfl, rfl⟩
        · have hdrop := jobs_at1 G k p hpg
          have hlt : 8 * (p : Int) < G := (gn_lt G p).2 hpg
          have hnext : p + 1 < gn G ↔ 8 * ((p : Int) + 1) < G := by have := gn_lt G (p + 1); push_cast at this; exact this.symm
          have CL := S.left
          rw [List.length_drop, hlen] at CL
          rw [hdrop] at S
          by_cases hm : 8 * (p : Int) + 8 ≤ G
          · have hmin : min (8 * (p : Int) + 8) (G : Int) = 8 * (p : Int) + 8 := by omega
            rw [hmin] at S
            have CN := S.next
            clear hdrop hmin S
            go_wp2_with fail
            refine CL.mono ?_
            rintro e w' ⟨rfl, rfl⟩
            go_wp2_with fail
            refine CN.mono ?_
            clear CN
            rintro e w3 ⟨rfl, ⟨v3, S3, _⟩, _⟩
            have S4 := S3.alloc (.cells #[.int .i64 (-1), .int .i64 (8 * (p : Int)), .int .i64 (8 * (p : Int) + 8)] 28)
            have HS := Lib.hid S4
            have HNX := Lib.hid hnext
            clear S3 S4 hnext
            go_wp2_with fail
            go_roundw
            case rel =>
              refine ⟨p + 1, v3, HS.out, by omega, ?_⟩
              by_cases hq : p + 1 < gn G
              · have hq2 := HNX.out.1 hq
                exact .inl ⟨hq, by go_num, rfl⟩
              · refine .inr ⟨0, by omega, ?_, rfl⟩
                have := mt HNX.out.2 hq
                go_num
            case measure => simp [intOf]; omega
          · have hmin : min (8 * (p : Int) + 8) (G : Int) = G := by omega
            rw [hmin] at S
            have CN := S.next
            clear hdrop hmin S
            go_wp2_with fail
            refine CL.mono ?_
            rintro e w' ⟨rfl, rfl⟩
            go_wp2_with fail
            refine CN.mono ?_
            clear CN
            rintro e w3 ⟨rfl, ⟨v3, S3, _⟩, _⟩
            have S4 := S3.alloc (.cells #[.int .i64 (-1), .int .i64 (8 * (p : Int)), .int .i64 ((G : Int))] 28)
            have HS := Lib.hid S4
            have HNX := Lib.hid hnext
            clear S3 S4 hnext
            go_wp2_with fail
            go_roundw
            case rel =>
              refine ⟨p + 1, v3, HS.out, by omega, ?_⟩
              by_cases hq : p + 1 < gn G
              · have hq2 := HNX.out.1 hq
                exact .inl ⟨hq, by go_num, rfl⟩
              · refine .inr ⟨0, by omega, ?_, rfl⟩
                have := mt HNX.out.2 hq
                go_num
            case measure => simp [intOf]; omega
        · by_cases hq : q < k
          · rw [jobs_at2 G k q hq] at S
            have CL := S.left
            rw [List.length_cons, List.length_drop, hlen] at CL
            have CN := S.next
            clear S
            go_wp2_with fail
            refine CL.mono ?_
            rintro e w' ⟨rfl, rfl⟩
            go_wp2_with fail
            refine CN.mono ?_
            clear CN
            rintro e w3 ⟨rfl, ⟨v3, S3, _⟩, _⟩
            have S4 := S3.alloc (.cells #[.int .i64 (q : Int), .int .i64 0, .int .i64 16] 28)
            have HS := Lib.hid S4
            clear S3 S4
            simp only [st]
            go_wp2_with fail
            go_roundw
            case rel =>
              exact ⟨gn G + q + 1, v3, HS.out, by omega, .inr ⟨q + 1, by omega, rfl, by go_num⟩⟩
            case measure => simp [intOf]; omega
          · have hqk : q = k := by omega
            subst hqk
            have CL := S.left
            rw [List.length_drop, hlen, Nat.sub_self] at CL
            have HS := Lib.hid S
            clear S
            go_wp2_with fail
            refine CL.mono ?_
            rintro e w' ⟨rfl, rfl⟩
            go_wp2_with fail
            refine (told_any _).mono ?_
            rintro e w3 ⟨rfl, T⟩
            have HT := Lib.hid (HS.out.turns.then T)
            clear T
            go_wp2_with fail
            go_ret
            exact ⟨rfl, HT.out⟩

theorem each_walk (a0 : Int) (_w0 : (Lit.int .i64 a0).wf = true) (a1 : Int) (_w1 : (Lit.int .i64 a1).wf = true) (w : World) :
    Calls Try.prog 3 #[.int .i64 a0, .int .i64 a1] w fun e w' => e = .returned (.bool true) ∧ Below w.heap.size w w' :=
  (each_any a0 a1 w).mono fun _ _ ⟨he, ht⟩ => ⟨he, ht.toBelow (Nat.le_refl _) fun _ _ x => x⟩
end Go.Proofs.Ytpbpnoohbfchgaa
