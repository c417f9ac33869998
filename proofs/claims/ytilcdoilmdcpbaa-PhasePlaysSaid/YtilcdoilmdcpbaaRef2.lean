/- The reference's methods by contracts. -/
import Derived.Test.YtilcdoilmdcpbaaRef
namespace Go.Proofs.Ytilcdoilmdcpbaa
open Go.RowKit

/-- Block b is the reference's phases at s; block g what was said. -/
structure RfB (w : World) (b g : Nat) (s : S) : Prop where
  row : Row w b 36 [.int .i64 (s.l.length : Int), .int .i64 s.ph, .int .i64 s.cy, .int .i64 s.rs, .slice (some ⟨g, 0, none⟩) s.l.length s.l.length]
  said : Row w g 4 (s.l.map Value.bool)
  ne : b ≠ g
  len : 0 < s.l.length ∧ s.l.length ≤ 64

section
variable {w : World} {b g : Nat} {s : S}
theorem RfB.c0 (h : RfB w b g s) : w.cell? ⟨b, 0, none⟩ = some (.int .i64 (s.l.length : Int)) := h.row.cell 0 _ rfl
theorem RfB.c1 (h : RfB w b g s) : w.cell? ⟨b, 1, none⟩ = some (.int .i64 s.ph) := h.row.cell 1 _ rfl
theorem RfB.c2 (h : RfB w b g s) : w.cell? ⟨b, 2, none⟩ = some (.int .i64 s.cy) := h.row.cell 2 _ rfl
theorem RfB.c3 (h : RfB w b g s) : w.cell? ⟨b, 3, none⟩ = some (.int .i64 s.rs) := h.row.cell 3 _ rfl
theorem RfB.c4 (h : RfB w b g s) : w.cell? ⟨b, 4, none⟩ = some (.slice (some ⟨g, 0, none⟩) s.l.length s.l.length) := h.row.cell 4 _ rfl
theorem RfB.sc (h : RfB w b g s) (j : Nat) (hj : j < s.l.length) : w.cell? ⟨g, j, none⟩ = some (.bool (s.l.getD j false)) := h.said.cell j _ (boolAt s.l j hj)
theorem RfB.later {w' : World} {D : Nat → Prop} (h : RfB w b g s) (t : Turns D w w') (hb : ¬ D b) (hg : ¬ D g) : RfB w' b g s := ⟨h.row.later t hb, h.said.later t hg, h.ne, h.len⟩
theorem RfB.setPh (h : RfB w b g s) (x : Int) : RfB (w.setCell ⟨b, 1, none⟩ (.int .i64 x)) b g { s with ph := x } := ⟨h.row.set 1 _, h.said.other _ _ (Ne.symm h.ne), h.ne, h.len⟩
theorem RfB.setCy (h : RfB w b g s) (x : Int) : RfB (w.setCell ⟨b, 2, none⟩ (.int .i64 x)) b g { s with cy := x } := ⟨h.row.set 2 _, h.said.other _ _ (Ne.symm h.ne), h.ne, h.len⟩
theorem RfB.setRs (h : RfB w b g s) (x : Int) : RfB (w.setCell ⟨b, 3, none⟩ (.int .i64 x)) b g { s with rs := x } := ⟨h.row.set 3 _, h.said.other _ _ (Ne.symm h.ne), h.ne, h.len⟩

theorem all_false (l : List Bool) (i : Nat) (hi : i < l.length) (h : l.getD i false = false) : allSaid l = false := by
  rw [List.getD_eq_getElem?_getD, List.getElem?_eq_getElem hi] at h
  unfold allSaid
  rw [List.all_eq_false]
  exact ⟨l[i], List.getElem_mem hi, by simpa using h⟩
theorem all_true (l : List Bool) (h : ∀ j, j < l.length → l.getD j false = true) : allSaid l = true := by
  unfold allSaid
  rw [List.all_eq_true]
  intro x hx
  obtain ⟨j, hj, rfl⟩ := List.getElem_of_mem hx
  have := h j hj
  rw [List.getD_eq_getElem?_getD, List.getElem?_eq_getElem hj] at this
  simpa using this

theorem rquiet_any (h : RfB w b g s) : Calls Try.prog 19 #[.pointer (some ⟨b, 0, none⟩)] w fun e w' => e = .returned (.bool (decide (s.ph = 1) && allSaid s.l)) ∧ w = w' := by
  obtain ⟨ph, cy, l, rs⟩ := s
  have c0 := h.c0
  have c1 := h.c1
  have c4 := h.c4
  have sc := h.sc
  have hlen := h.len
  simp only at c0 c1 c4 sc hlen ⊢
  have SC := Lib.hid sc
  clear h sc
  obtain ⟨n, hn⟩ : ∃ n, l.length = n := ⟨_, rfl⟩
  rw [hn] at c0 c4 hlen
  have HN := Lib.hid hn
  clear hn
  go_enter Try.func19, Try.ntmps19
  go_wp2_with fail
  go_loop [3] (fun i => ∃ k : Nat, k ≤ n ∧ i = .int .i64 k ∧ ∀ j, j < k → l.getD j false = true) (fun i => n - (intOf i).toNat)
  case atStart => exact ⟨0, by omega, rfl, fun j hj => by omega⟩
  case round =>
    obtain ⟨k, hk, rfl, hall⟩ := hrel
    have HA := Lib.hid hall
    clear hall
    by_cases hlt : k < n
    · have ck := SC.out k (by rw [HN.out]; exact hlt)
      have hlt' : (k : Int) < (n : Int) := by omega
      cases hv : l.getD k false
      · rw [hv] at ck
        have hf : Hid (allSaid l = false) := all_false l k (by rw [HN.out]; exact hlt) hv
        clear hv
        go_wp2
        go_ret
        exact ⟨by rw [hf.out]; simp, rfl⟩
      · rw [hv] at ck
        have HV := Lib.hid hv
        clear hv
        go_wp2
        go_round
        case rel => exact ⟨k + 1, by omega, by go_num, fun j hj => by
          by_cases e : j = k
          · rw [e]; exact HV.out
          · exact HA.out j (by omega)⟩
        case measure => simp [intOf]; omega
    · obtain rfl : k = n := by omega
      have hf : Hid (allSaid l = true) := all_true l (by rw [HN.out]; exact HA.out)
      go_wp2
      go_ret
      refine ⟨?_, rfl⟩
      rw [hf.out, Bool.and_true]
      congr 2

/-- l, its first i forgotten. -/
def clr (l : List Bool) (i : Nat) : List Bool := List.replicate i false ++ l.drop i
theorem clr_length (l : List Bool) (i : Nat) (h : i ≤ l.length) : (clr l i).length = l.length := by simp [clr]; omega
theorem clr_get (l : List Bool) (i : Nat) (h : i < l.length) : (clr l i)[i]? = some (l.getD i false) := by
  unfold clr
  rw [List.getElem?_append_right (by simp), List.length_replicate, Nat.sub_self, List.getElem?_drop, Nat.add_zero, List.getD_eq_getElem?_getD, List.getElem?_eq_getElem h]
  rfl
theorem clr_set (l : List Bool) (i : Nat) (h : i < l.length) : (clr l i).set i false = clr l (i + 1) := by
  unfold clr
  rw [List.set_append_right _ _ (by simp), List.length_replicate, Nat.sub_self, List.drop_eq_getElem_cons h, List.set_cons_zero, List.replicate_succ', List.append_assoc]
  rfl
theorem clr_all (l : List Bool) : clr l l.length = List.replicate l.length false := by simp [clr]
theorem some_take (l : List Bool) (i : Nat) (h : i < l.length) : someSaid (l.take (i + 1)) = (someSaid (l.take i) || l.getD i false) := by
  rw [List.take_succ_eq_append_getElem h, List.getD_eq_getElem?_getD, List.getElem?_eq_getElem h]
  unfold someSaid
  rw [List.any_append]
  simp only [List.any_cons, List.any_nil, Bool.or_false, Option.getD_some, id]

theorem rsay_any (p : Int) (e f : Bool) (h : RfB w b g s) (hr : 0 ≤ s.rs ∧ s.rs ≤ 1000) :
    Calls Try.prog 17 #[.pointer (some ⟨b, 0, none⟩), .int .i64 p, .bool e, .bool f] w fun e' w' => e' = .returned (.int .i64 (sayF s p e f).1) ∧ RfB w' b g (sayF s p e f).2 ∧ Turns (DB b g) w w' := by
  have c0 := h.c0
  have c1 := h.c1
  have c3 := h.c3
  have c4 := h.c4
  have hlen := h.len
  by_cases hp : p < 0 ∨ (s.l.length : Int) ≤ p
  · have eF : sayF s p e f = (1, s) := by unfold sayF; rw [if_pos hp]
    rw [eF]
    have H := Lib.hid h
    clear h eF
    rcases Int.lt_or_le p 0 with h0 | h0
    · clear hp
      go_enter Try.func17, Try.ntmps17
      go_wp2
      go_ret
      exact ⟨rfl, H.out, Turns.refl _ _⟩
    · have h1 : (s.l.length : Int) ≤ p := by omega
      clear hp
      go_enter Try.func17, Try.ntmps17
      go_wp2
      go_ret
      exact ⟨rfl, H.out, Turns.refl _ _⟩
  · by_cases hph : s.ph = 1
    · obtain ⟨q, rfl⟩ : ∃ q : Nat, p = q := ⟨p.toNat, by omega⟩
      have hq : q < s.l.length := by omega
      cases hef : (e && !f)
      · have eF : sayF s q e f = (0, { s with l := List.replicate s.l.length false, rs := if someSaid s.l then s.rs + 1 else s.rs }) := by
          unfold sayF; rw [if_neg hp, if_neg (by omega), hef]; rfl
        rw [eF]
        clear eF
        obtain ⟨ph, cy, l, rs⟩ := s
        simp only at c0 c1 c3 c4 hlen hph hq hp hr ⊢
        subst hph
        obtain ⟨n, hn⟩ : ∃ n, l.length = n := ⟨_, rfl⟩
        rw [hn] at c0 c4 hlen hq hp ⊢
        have HN := Lib.hid hn
        clear hn
        obtain ⟨rs', hrs⟩ : ∃ x, (if someSaid l then rs + 1 else rs) = x := ⟨_, rfl⟩
        rw [hrs]
        have HRS := Lib.hid hrs
        clear hrs
        have hqn : (q : Int) < (n : Int) := by omega
        have H := Lib.hid h
        have f3 := h.row.free 3
        clear h hp
        revert hef
        cases e <;> cases f <;> intro hef
        all_goals first
          | (exfalso; simp at hef; done)
          | (clear hef
             go_enter Try.func17, Try.ntmps17
             go_wp2_with fail
             go_loopw [9, 10] (fun av iv wr => ∃ i : Nat, i ≤ n ∧ iv = .int .i64 i ∧ av = .bool (someSaid (l.take i)) ∧ Row wr b 36 [.int .i64 (n : Int), .int .i64 1, .int .i64 cy, .int .i64 rs, .slice (some ⟨g, 0, none⟩) n n] ∧ Row wr g 4 ((clr l i).map Value.bool) ∧ Turns (DB b g) w wr)
               (fun _ iv _ => n - (intOf iv).toNat)
             case atStart => exact ⟨0, by omega, rfl, by simp [someSaid], by have := H.out.row; simp only [HN.out] at this; exact this, by have := H.out.said; simpa [clr] using this, Turns.refl _ _⟩
             case round =>
               clear c0 c1 c3 c4 f3
               obtain ⟨i, hi, rfl, rfl, hrow, hsaid, T⟩ := hrel
               have c0 := hrow.cell 0 _ rfl
               have c3 := hrow.cell 3 _ rfl
               have c4 := hrow.cell 4 _ rfl
               have f3 := hrow.free 3
               by_cases hlt : i < n
               · have hlt' : (i : Int) < (n : Int) := by omega
                 have ck : wr.cell? ⟨g, i, none⟩ = some (.bool (l.getD i false)) := hsaid.cell i _ (by rw [List.getElem?_map, clr_get l i (by rw [HN.out]; exact hlt)]; rfl)
                 have fk := hsaid.free i
                 have hsaid2 : Hid (Row (wr.setCell ⟨g, i, none⟩ (.bool false)) g 4 ((clr l (i + 1)).map Value.bool)) := by
                   have := hsaid.set i (.bool false)
                   rw [← List.map_set, clr_set l i (by rw [HN.out]; exact hlt)] at this
                   exact this
                 have hrow2 := Lib.hid (hrow.other i (.bool false) H.out.ne)
                 have T2 := Lib.hid (T.gg i (.bool false))
                 have hst := Lib.hid (some_take l i (by rw [HN.out]; exact hlt))
                 clear hrow hsaid T
                 obtain ⟨x, hx⟩ : ∃ x, l.getD i false = x := ⟨_, rfl⟩
                 obtain ⟨y, hy⟩ : ∃ y, someSaid (l.take i) = y := ⟨_, rfl⟩
                 have hst2 : Hid (someSaid (l.take (i + 1)) = (y || x)) := by rw [← hx, ← hy]; exact hst
                 rw [hx] at ck
                 rw [hy]
                 clear hx hy hst
                 cases y
                 all_goals
                   go_wp2
                   go_roundw
                   case rel => exact ⟨i + 1, by omega, by go_num, by rw [hst2.out]; simp, hrow2.out, hsaid2.out, T2.out⟩
                   case measure => simp [intOf]; omega
               · obtain rfl : i = n := by omega
                 have hta : l.take i = l := List.take_of_length_le (by rw [HN.out]; omega)
                 rw [hta]
                 have hcl : clr l i = List.replicate l.length false := by rw [← HN.out]; exact clr_all l
                 rw [hcl] at hsaid
                 rw [HN.out] at hsaid
                 have hr2 := hrow.set 3 (.int .i64 (rs + 1))
                 have hs2 := hsaid.other 3 (.int .i64 (rs + 1)) (Ne.symm H.out.ne)
                 have T2 := T.bb 3 (.int .i64 (rs + 1))
                 cases hy : someSaid l
                 · have e : rs' = rs := by rw [← HRS.out, hy]; rfl
                   have R0 : Hid (RfB wr b g ⟨1, cy, List.replicate i false, rs'⟩) := ⟨by rw [e]; simpa using hrow, hsaid, H.out.ne, by simpa using hlen⟩
                   have T0 := Lib.hid T
                   clear hrow hsaid T hr2 hs2 T2 hy hcl hta e
                   go_wp2
                   go_ret
                   exact ⟨rfl, R0.out, T0.out⟩
                 · have e : rs' = rs + 1 := by rw [← HRS.out, hy]; rfl
                   have R0 : Hid (RfB (wr.setCell ⟨b, 3, none⟩ (.int .i64 (rs + 1))) b g ⟨1, cy, List.replicate i false, rs'⟩) := ⟨by rw [e]; simpa using hr2, hs2, H.out.ne, by simpa using hlen⟩
                   have T0 := Lib.hid T2
                   clear hrow hsaid T hr2 hs2 T2 hy hcl hta e
                   go_wp2
                   go_ret
                   exact ⟨rfl, R0.out, T0.out⟩)
      · obtain ⟨rfl, rfl⟩ : e = true ∧ f = false := by revert hef; cases e <;> cases f <;> simp
        have eF : sayF s q true false = (0, { s with l := s.l.set q true }) := by
          unfold sayF; rw [if_neg hp, if_neg (by omega)]; rfl
        rw [eF]
        have R0 : Hid (RfB (w.setCell ⟨g, q, none⟩ (.bool true)) b g { s with l := s.l.set q true }) := by
          refine ⟨?_, ?_, h.ne, by simpa using h.len⟩
          · simpa using h.row.other q (.bool true) h.ne
          · have := h.said.set q (.bool true); rwa [← List.map_set] at this
        have T0 := Lib.hid ((Turns.refl (DB b g) w).gg q (.bool true))
        have sq := h.sc q hq
        have fq := h.said.free q
        rw [hph] at c1
        have hq' : (q : Int) < (s.l.length : Int) := by omega
        clear h eF hef hp
        go_enter Try.func17, Try.ntmps17
        go_wp2
        go_ret
        exact ⟨rfl, R0.out, T0.out⟩
    · have eF : sayF s p e f = (5, s) := by unfold sayF; rw [if_neg hp, if_pos hph]
      rw [eF]
      obtain ⟨q, rfl⟩ : ∃ q : Nat, p = q := ⟨p.toNat, by omega⟩
      have h1 : (q : Int) < (s.l.length : Int) := by omega
      have h2 : (s.ph != 1) = true := by simpa using hph
      have H := Lib.hid h
      clear h eF hp hph
      go_enter Try.func17, Try.ntmps17
      go_wp2
      go_ret
      exact ⟨rfl, H.out, Turns.refl _ _⟩
end
end Go.Proofs.Ytilcdoilmdcpbaa
