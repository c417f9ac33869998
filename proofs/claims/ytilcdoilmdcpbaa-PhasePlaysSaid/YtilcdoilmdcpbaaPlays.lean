/- The walk of PhasePlays. -/
import Derived.Test.YtilcdoilmdcpbaaRef3
import Derived.Deep.LoopGhost
import Derived.Deep.DeepCutAuto
namespace Go.Proofs.Ytilcdoilmdcpbaa
open Go.RowKit

/-- Both stand at s; nothing below block B has turned. -/
structure Both (W0 w : World) (b g bx gx : Nat) (s : S) : Prop where
  p : PhS w b g s
  r : RfB w bx gx s
  d1 : b ≠ bx
  d2 : b ≠ gx
  d3 : g ≠ bx
  d4 : g ≠ gx
  z1 : W0.heap.size ≤ b
  z2 : W0.heap.size ≤ g
  z3 : W0.heap.size ≤ bx
  z4 : W0.heap.size ≤ gx
  t : Turns (fun j => W0.heap.size ≤ j) W0 w

section
variable {W0 w w' : World} {b g bx gx : Nat} {s : S}
theorem Both.same (h : Both W0 w b g bx gx s) (t : Turns (fun _ => False) w w') : Both W0 w' b g bx gx s :=
  ⟨h.p.later t (fun x => x) (fun x => x), h.r.later t (fun x => x) (fun x => x), h.d1, h.d2, h.d3, h.d4, h.z1, h.z2, h.z3, h.z4, h.t.then (t.mono fun _ x _ => x.elim)⟩
/-- The program's has gone on to s', the reference's stands. -/
structure Half (W0 w : World) (b g bx gx : Nat) (s s' : S) : Prop where
  p : PhS w b g s'
  r : RfB w bx gx s
  d1 : b ≠ bx
  d2 : b ≠ gx
  d3 : g ≠ bx
  d4 : g ≠ gx
  z1 : W0.heap.size ≤ b
  z2 : W0.heap.size ≤ g
  z3 : W0.heap.size ≤ bx
  z4 : W0.heap.size ≤ gx
  t : Turns (fun j => W0.heap.size ≤ j) W0 w

theorem Both.first (h : Both W0 w b g bx gx s) {f : Nat} {args : Array Value} {r : Int × S} (c : UniS f args w b g r) :
    Calls Try.prog f args w fun e w' => e = .returned (.int .i64 r.1) ∧ Half W0 w' b g bx gx s r.2 :=
  c.mono fun _ _ ⟨he, hp, ht⟩ => ⟨he, hp, h.r.later ht (fun x => by rcases x with x | x; exact h.d1 x.symm; exact h.d3 x.symm) (fun x => by rcases x with x | x; exact h.d2 x.symm; exact h.d4 x.symm),
    h.d1, h.d2, h.d3, h.d4, h.z1, h.z2, h.z3, h.z4, h.t.then (ht.mono fun j hj _ => by rcases hj with rfl | rfl; exact h.z1; exact h.z2)⟩

theorem Both.first' (h : Both W0 w b g bx gx s) {f : Nat} {args : Array Value} {r : Int × S} (c : UniS f args w b g r) :
    Calls Try.prog f args w fun e w' => e = .returned (.int .i64 r.1) ∧ Half W0 w' b g bx gx s r.2 ∧ Turns (DB b g) w w' :=
  c.mono fun _ _ ⟨he, hp, ht⟩ => ⟨he, ⟨hp, h.r.later ht (fun x => by rcases x with x | x; exact h.d1 x.symm; exact h.d3 x.symm) (fun x => by rcases x with x | x; exact h.d2 x.symm; exact h.d4 x.symm),
    h.d1, h.d2, h.d3, h.d4, h.z1, h.z2, h.z3, h.z4, h.t.then (ht.mono fun j hj _ => by rcases hj with rfl | rfl; exact h.z1; exact h.z2)⟩, ht⟩

theorem Half.second {s' : S} (h : Half W0 w b g bx gx s s') {f : Nat} {args : Array Value} {v : Int} (c : UniR f args w bx gx (v, s')) :
    Calls Try.prog f args w fun e w' => ∃ gx', e = .returned (.int .i64 v) ∧ Both W0 w' b g bx gx' s' := by
  refine c.mono ?_
  rintro e w' ⟨gx', he, hr, ht, hg⟩
  have hb := h.p.row.lt
  have hg2 := h.p.said.lt
  have hbx := h.r.row.lt
  have hz := h.t.size
  have z4 := h.z4
  have hd2 := h.d2
  have hd4 := h.d4
  exact ⟨gx', he, h.p.later ht (fun x => by rcases x with x | x; exact h.d1 x; exact h.d2 x) (fun x => by rcases x with x | x; exact h.d3 x; exact h.d4 x), hr, h.d1, by rcases hg with rfl | hg; exact h.d2; omega, h.d3, by rcases hg with rfl | hg; exact h.d4; omega, h.z1, h.z2, h.z3, by rcases hg with rfl | hg; exact h.z4; omega,
    h.t.then (ht.mono fun j hj _ => by rcases hj with rfl | rfl; exact h.z3; exact h.z4)⟩

theorem Both.call (h : Both W0 w b g bx gx s) {f : Nat} {args : Array Value} {v : Value} (c : Uni f args w v b g s.ph s.cy s.l (cnt s.l) s.rs) :
    Calls Try.prog f args w fun e w' => e = .returned v ∧ Both W0 w' b g bx gx s :=
  c.mono fun _ _ ⟨he, hp, ht⟩ => ⟨he, hp, h.r.later ht (fun x => by rcases x with x | x; exact h.d1 x.symm; exact h.d3 x.symm) (fun x => by rcases x with x | x; exact h.d2 x.symm; exact h.d4 x.symm),
    h.d1, h.d2, h.d3, h.d4, h.z1, h.z2, h.z3, h.z4, h.t.then (ht.mono fun j hj _ => by rcases hj with rfl | rfl; exact h.z1; exact h.z2)⟩
end

/-- What a call leaves in its bounds. -/
structure Good (s s' : S) : Prop where
  l : s'.l.length = s.l.length
  c0 : 0 ≤ s'.cy
  c1 : s'.cy ≤ s.cy + 1
  r0 : 0 ≤ s'.rs
  r1 : s'.rs ≤ s.rs + 1
theorem good_begin (s : S) (h : 0 ≤ s.cy) (h' : 0 ≤ s.rs) : Good s (beginF s).2 := by
  unfold beginF; split
  · exact ⟨by simp, by simp only []; omega, by simp only []; omega, by simp only []; omega, by simp only []; omega⟩
  · exact ⟨rfl, h, by simp only []; omega, h', by simp only []; omega⟩
theorem good_term (s : S) (h : 0 ≤ s.cy) (h' : 0 ≤ s.rs) : Good s (termF s).2 := by
  unfold termF; split <;> exact ⟨rfl, h, by simp only []; omega, h', by simp only []; omega⟩
theorem good_sweep (s : S) (h : 0 ≤ s.cy) (h' : 0 ≤ s.rs) : Good s (sweepF s).2 := by
  unfold sweepF; split <;> exact ⟨rfl, h, by simp only []; omega, h', by simp only []; omega⟩
theorem good_end (s : S) (h : 0 ≤ s.cy) (h' : 0 ≤ s.rs) : Good s (endF s).2 := by
  unfold endF; split <;> exact ⟨rfl, h, by simp only []; omega, h', by simp only []; omega⟩
theorem good_say (s : S) (p : Int) (e f : Bool) (h : 0 ≤ s.cy) (h' : 0 ≤ s.rs) : Good s (sayF s p e f).2 := by
  unfold sayF; split
  · exact ⟨rfl, h, by simp only []; omega, h', by simp only []; omega⟩
  · split
    · exact ⟨rfl, h, by simp only []; omega, h', by simp only []; omega⟩
    · split
      · exact ⟨by simp, h, by simp only []; omega, h', by simp only []; omega⟩
      · refine ⟨by simp, h, by simp only []; omega, ?_, ?_⟩ <;> simp only [] <;> split <;> omega

set_option maxRecDepth 100000 in
theorem plays_bad (ps : Int) (a : Option Addr) (len cap : Nat) (w : World) (h : ps < 1 ∨ 64 < ps) : Calls Try.prog 4 #[.int .i64 ps, .slice a len cap] w fun e w' => e = .returned (.bool true) ∧ Turns (fun _ => False) w w' := by
  have N := new_bad ps w h
  rcases Int.lt_or_le ps 1 with h1 | h1
  · clear h
    go_enter Try.func4, Try.ntmps4
    go_wp2_with fail
    refine N.mono ?_
    rintro e w1 ⟨rfl, rfl⟩
    clear N
    go_wp2_with fail
    refine (told_any _).mono ?_
    rintro e w2 ⟨rfl, t⟩
    have TF := Lib.hid t
    clear t
    go_wp2_with fail
    go_ret
    exact ⟨rfl, TF.out⟩
  · have h2 : 64 < ps := by omega
    clear h
    go_enter Try.func4, Try.ntmps4
    go_wp2_with fail
    refine N.mono ?_
    rintro e w1 ⟨rfl, rfl⟩
    clear N
    go_wp2_with fail
    refine (told_any _).mono ?_
    rintro e w2 ⟨rfl, t⟩
    have TF := Lib.hid t
    clear t
    go_wp2_with fail
    go_ret
    exact ⟨rfl, TF.out⟩

set_option maxHeartbeats 2000000 in
set_option maxRecDepth 100000 in
theorem plays_any (n : Nat) (a : Option Addr) (len cap : Nat) (z : Nat → OpR) (w : World) (hn1 : 1 ≤ n) (hn2 : n ≤ 64) (hi : IsOps w a len z) : Calls Try.prog 4 #[.int .i64 (n : Int), .slice a len cap] w fun e w' => e = .returned (.bool true) ∧ Turns (fun _ => False) w w' := by
  obtain ⟨i0, hi4, hz0, hz1, hz2⟩ := info_parts Try.info4
  have hn1' : ¬ (n : Int) < 1 := by omega
  have hn2' : ¬ (64 : Int) < (n : Int) := by omega
  go_enter Try.func4, Try.ntmps4
  go_wp2_with fail
  refine (new_ok n w (by omega) (by omega)).mono ?_
  rintro e w1 ⟨b, g, rfl, H0, hb, hg, T0⟩
  go_wp2_with (at_make; refine wpList_make_full _ rfl (.tmp 39) (.tmp 39) 29 rfl w.heap.size 4 i0 (.bool false) 1 Try.underlying29 hi4 hz0 hz1 _ _ _ _ n rfl rfl rfl rfl ?b1 ?b2 ?b3 ?_)
  case b1 => rw [hz2]; omega
  case b2 => unfold maxLen; omega
  case b3 => exact T0.size
  intro w2 hown hgr
  have R := row_of_made hown
  have K : Turns (fun _ => False) w1 w2 := ⟨hgr.os, hgr.tape, hgr.output, hgr.size, fun k hk _ => hgr.block k hk (by simp)⟩
  have hb1 := H0.row.lt
  have hg1 := H0.said.lt
  have hz := T0.size
  have hr := R.lt
  obtain ⟨w3, hw3⟩ : ∃ w3, w2.alloc (.cells #[.int .i64 (n : Int), .int .i64 0, .int .i64 0, .int .i64 0, .slice (some ⟨w1.heap.size, 0, none⟩) n n] 36) = w3 := ⟨_, rfl⟩
  have B0 : Both w w3 b g w2.heap.size w1.heap.size ⟨0, 0, List.replicate n false, 0⟩ := by
    subst hw3
    refine ⟨?_, ⟨?_, R.alloc _, by omega, by simp; omega⟩, by omega, by omega, by omega, by omega, hb, hg, by omega, by omega, ((T0.then K).alloc _).mono fun _ x _ => x.elim⟩
    · have := H0.later (K.alloc (.cells #[.int .i64 (n : Int), .int .i64 0, .int .i64 0, .int .i64 0, .slice (some ⟨w1.heap.size, 0, none⟩) n n] 36)) (fun x => x) (fun x => x)
      show PhB _ b g 0 0 (List.replicate n false) ((cnt (List.replicate n false) : Nat) : Int) 0
      rw [cnt_none]
      exact this
    · have := @heap_new w2 (.cells #[.int .i64 (n : Int), .int .i64 0, .int .i64 0, .int .i64 0, .slice (some ⟨w1.heap.size, 0, none⟩) n n] 36) _ rfl
      unfold Row
      simpa using this
  have HW3 := Lib.hid hw3
  clear hown hgr R K H0 T0 hw3 hb1 hg1 hr
  go_wp2_with fail
  rw [HW3.out]
  clear HW3
  go_loopw [8] (fun iv wr => ∃ (i gx : Nat) (s : S), i ≤ 100 ∧ iv = .int .i64 i ∧ s.l.length = n ∧ 0 ≤ s.cy ∧ s.cy ≤ i ∧ 0 ≤ s.rs ∧ s.rs ≤ i ∧ Both w wr b g w2.heap.size gx s)
    (fun iv _ => 100 - (intOf iv).toNat)
  case atStart => exact ⟨0, w1.heap.size, ⟨0, 0, List.replicate n false, 0⟩, by omega, rfl, by simp, Int.le_refl _, Int.le_refl _, Int.le_refl _, Int.le_refl _, B0⟩
  case round =>
    clear B0
    obtain ⟨i, gx, s, hi100, rfl, hln, hcy0, hcy, hrs0, hrs, B⟩ := hrel
    by_cases hlt : i < len ∧ i < 100
    · obtain ⟨ba, off, rfl, hba, hcell⟩ := hi (by omega)
      have hop := hcell i hlt.1
      have hbelow := B.t.toBelow (Nat.le_refl _) (fun j hj x => by omega)
      have e0 := (hbelow.cell (p := ⟨ba, off + i * 4, none⟩) hba).trans hop.1
      have e1 := (hbelow.cell (p := ⟨ba, off + i * 4 + 1, none⟩) hba).trans hop.2.1
      have e2 := (hbelow.cell (p := ⟨ba, off + i * 4 + 2, none⟩) hba).trans hop.2.2.1
      have e3 := (hbelow.cell (p := ⟨ba, off + i * 4 + 3, none⟩) hba).trans hop.2.2.2
      obtain ⟨zk, hzk⟩ : ∃ x, (z i).kind = x := ⟨_, rfl⟩
      obtain ⟨zp, hzp⟩ : ∃ x, (z i).p = x := ⟨_, rfl⟩
      obtain ⟨ze, hze⟩ : ∃ x, (z i).e = x := ⟨_, rfl⟩
      obtain ⟨zf, hzf⟩ : ∃ x, (z i).f = x := ⟨_, rfl⟩
      rw [hzk] at e0
      rw [hzp] at e1
      rw [hze] at e2
      rw [hzf] at e3
      have h1 : (i : Int) < (len : Int) := by omega
      have h2 : (i : Int) < 100 := by omega
      have HLN := Lib.hid hln
      clear hop hcell hbelow hzk hzp hze hzf hlt hln
      go_wp2_with fail
      · obtain ⟨v, s', hv⟩ : ∃ v s', beginF s = (v, s') := ⟨_, _, rfl⟩
        have G : Good s s' := by have := good_begin s hcy0 hrs0; rw [hv] at this; exact this
        have B1 := B.same ((Turns.refl (fun _ => False) wr).alloc (.cells #[.int .i64 zk, .int .i64 zp, .bool ze, .bool zf] 31))
        have C1 := B1.first (s_begin B1.p (by omega))
        rw [hv] at C1
        have o1 : (wr.alloc (.cells #[.int .i64 zk, .int .i64 zp, .bool ze, .bool zf] 31)).heap[wr.heap.size]? = _ := heap_new rfl
        refine Calls.mono C1 ?_
        rintro e w4 ⟨rfl, HF⟩
        have C2 := HF.second (v := v) (s' := s') (by rw [← hv]; exact r_begin HF.r (by omega))
        clear C1 B1 o1 HF B
        have HV := Lib.hid hv
        clear hv
        go_wp2_with fail
        refine Calls.mono C2 ?_
        rintro e w5 ⟨gx', rfl, B5⟩
        clear C2
        obtain ⟨ph', cy', l', rs'⟩ := s'
        have hvv : (v != v) = false := by simp
        have c1 := B5.r.c1
        have c2 := B5.r.c2
        have c3 := B5.r.c3
        obtain ⟨qv, hqv⟩ : ∃ x, (decide (ph' = 1) && allSaid l') = x := ⟨_, rfl⟩
        have P13 := fun q => (phase_any (B5.p.drewN q)).mono (fun _ _ h => And.intro h.1 h.2.symm)
        have P18 := fun q => (cycle_any (B5.p.drewN q)).mono (fun _ _ h => And.intro h.1 h.2.symm)
        have P11 := fun q => (restarts_any (B5.p.drewN q)).mono (fun _ _ h => And.intro h.1 h.2.symm)
        have P10 := fun q => quiet_any (B5.p.drewN q)
        have eq : qt ph' (cnt l') l'.length = qv := by rw [← hqv]; exact qt_cnt ⟨ph', cy', l', rs'⟩
        have P19 := fun q => (rquiet_any (B5.r.later (drewN_turns w5 q) (fun x => x) (fun x => x))).mono (fun _ _ h => And.intro h.1 h.2.symm)
        simp only [eq, hqv] at P10 P19
        simp only at c1 c2 c3 P13 P18 P11
        have EQ := Lib.hid eq
        have HQV := Lib.hid hqv
        clear eq hqv
        go_wp2_with fail
        go_quiet ((first | (go_at_call 13; exact Calls.quiet_of_same (P13 _)) | (go_at_call 18; exact Calls.quiet_of_same (P18 _)) | (go_at_call 11; exact Calls.quiet_of_same (P11 _)) | (go_at_call 10; exact Calls.quiet_of (P10 _)) | (go_at_call 19; exact Calls.quiet_of_same (P19 _))))
        have B9 := B5.same (drewN_turns w5 nq)
        clear B5 c1 c2 c3 P13 P18 P11 P10 P19
        have BF := Lib.hid B9
        clear B9
        have GL := G.l
        have G0 := G.c0
        have G1 := G.c1
        have R0 := G.r0
        have R1 := G.r1
        simp only at GL G0 G1 R0 R1
        clear G
        have HGL : Hid (l'.length = n) := GL.trans HLN.out
        clear GL
        go_wp2_with fail
        go_roundw
        case rel => exact ⟨i + 1, gx', ⟨ph', cy', l', rs'⟩, by omega, by go_num, HGL.out, G0, by simp only; omega, R0, by simp only; omega, BF.out⟩
        case measure => simp [intOf]; omega
      · obtain ⟨v, s', hv⟩ : ∃ v s', termF s = (v, s') := ⟨_, _, rfl⟩
        have G : Good s s' := by have := good_term s hcy0 hrs0; rw [hv] at this; exact this
        have B1 := B.same ((Turns.refl (fun _ => False) wr).alloc (.cells #[.int .i64 zk, .int .i64 zp, .bool ze, .bool zf] 31))
        have C1 := B1.first (s_term B1.p)
        rw [hv] at C1
        have o1 : (wr.alloc (.cells #[.int .i64 zk, .int .i64 zp, .bool ze, .bool zf] 31)).heap[wr.heap.size]? = _ := heap_new rfl
        refine Calls.mono C1 ?_
        rintro e w4 ⟨rfl, HF⟩
        have C2 := HF.second (v := v) (s' := s') (by rw [← hv]; exact r_term HF.r)
        clear C1 B1 o1 HF B
        have HV := Lib.hid hv
        clear hv
        go_wp2_with fail
        refine Calls.mono C2 ?_
        rintro e w5 ⟨gx', rfl, B5⟩
        clear C2
        obtain ⟨ph', cy', l', rs'⟩ := s'
        have hvv : (v != v) = false := by simp
        have c1 := B5.r.c1
        have c2 := B5.r.c2
        have c3 := B5.r.c3
        obtain ⟨qv, hqv⟩ : ∃ x, (decide (ph' = 1) && allSaid l') = x := ⟨_, rfl⟩
        have P13 := fun q => (phase_any (B5.p.drewN q)).mono (fun _ _ h => And.intro h.1 h.2.symm)
        have P18 := fun q => (cycle_any (B5.p.drewN q)).mono (fun _ _ h => And.intro h.1 h.2.symm)
        have P11 := fun q => (restarts_any (B5.p.drewN q)).mono (fun _ _ h => And.intro h.1 h.2.symm)
        have P10 := fun q => quiet_any (B5.p.drewN q)
        have eq : qt ph' (cnt l') l'.length = qv := by rw [← hqv]; exact qt_cnt ⟨ph', cy', l', rs'⟩
        have P19 := fun q => (rquiet_any (B5.r.later (drewN_turns w5 q) (fun x => x) (fun x => x))).mono (fun _ _ h => And.intro h.1 h.2.symm)
        simp only [eq, hqv] at P10 P19
        simp only at c1 c2 c3 P13 P18 P11
        have EQ := Lib.hid eq
        have HQV := Lib.hid hqv
        clear eq hqv
        go_wp2_with fail
        go_quiet ((first | (go_at_call 13; exact Calls.quiet_of_same (P13 _)) | (go_at_call 18; exact Calls.quiet_of_same (P18 _)) | (go_at_call 11; exact Calls.quiet_of_same (P11 _)) | (go_at_call 10; exact Calls.quiet_of (P10 _)) | (go_at_call 19; exact Calls.quiet_of_same (P19 _))))
        have B9 := B5.same (drewN_turns w5 nq)
        clear B5 c1 c2 c3 P13 P18 P11 P10 P19
        have BF := Lib.hid B9
        clear B9
        have GL := G.l
        have G0 := G.c0
        have G1 := G.c1
        have R0 := G.r0
        have R1 := G.r1
        simp only at GL G0 G1 R0 R1
        clear G
        have HGL : Hid (l'.length = n) := GL.trans HLN.out
        clear GL
        go_wp2_with fail
        go_roundw
        case rel => exact ⟨i + 1, gx', ⟨ph', cy', l', rs'⟩, by omega, by go_num, HGL.out, G0, by simp only; omega, R0, by simp only; omega, BF.out⟩
        case measure => simp [intOf]; omega
      · obtain ⟨v, s', hv⟩ : ∃ v s', sweepF s = (v, s') := ⟨_, _, rfl⟩
        have G : Good s s' := by have := good_sweep s hcy0 hrs0; rw [hv] at this; exact this
        have B1 := B.same ((Turns.refl (fun _ => False) wr).alloc (.cells #[.int .i64 zk, .int .i64 zp, .bool ze, .bool zf] 31))
        have C1 := B1.first (s_sweep B1.p)
        rw [hv] at C1
        have o1 : (wr.alloc (.cells #[.int .i64 zk, .int .i64 zp, .bool ze, .bool zf] 31)).heap[wr.heap.size]? = _ := heap_new rfl
        refine Calls.mono C1 ?_
        rintro e w4 ⟨rfl, HF⟩
        have C2 := HF.second (v := v) (s' := s') (by rw [← hv]; exact r_sweep HF.r)
        clear C1 B1 o1 HF B
        have HV := Lib.hid hv
        clear hv
        go_wp2_with fail
        refine Calls.mono C2 ?_
        rintro e w5 ⟨gx', rfl, B5⟩
        clear C2
        obtain ⟨ph', cy', l', rs'⟩ := s'
        have hvv : (v != v) = false := by simp
        have c1 := B5.r.c1
        have c2 := B5.r.c2
        have c3 := B5.r.c3
        obtain ⟨qv, hqv⟩ : ∃ x, (decide (ph' = 1) && allSaid l') = x := ⟨_, rfl⟩
        have P13 := fun q => (phase_any (B5.p.drewN q)).mono (fun _ _ h => And.intro h.1 h.2.symm)
        have P18 := fun q => (cycle_any (B5.p.drewN q)).mono (fun _ _ h => And.intro h.1 h.2.symm)
        have P11 := fun q => (restarts_any (B5.p.drewN q)).mono (fun _ _ h => And.intro h.1 h.2.symm)
        have P10 := fun q => quiet_any (B5.p.drewN q)
        have eq : qt ph' (cnt l') l'.length = qv := by rw [← hqv]; exact qt_cnt ⟨ph', cy', l', rs'⟩
        have P19 := fun q => (rquiet_any (B5.r.later (drewN_turns w5 q) (fun x => x) (fun x => x))).mono (fun _ _ h => And.intro h.1 h.2.symm)
        simp only [eq, hqv] at P10 P19
        simp only at c1 c2 c3 P13 P18 P11
        have EQ := Lib.hid eq
        have HQV := Lib.hid hqv
        clear eq hqv
        go_wp2_with fail
        go_quiet ((first | (go_at_call 13; exact Calls.quiet_of_same (P13 _)) | (go_at_call 18; exact Calls.quiet_of_same (P18 _)) | (go_at_call 11; exact Calls.quiet_of_same (P11 _)) | (go_at_call 10; exact Calls.quiet_of (P10 _)) | (go_at_call 19; exact Calls.quiet_of_same (P19 _))))
        have B9 := B5.same (drewN_turns w5 nq)
        clear B5 c1 c2 c3 P13 P18 P11 P10 P19
        have BF := Lib.hid B9
        clear B9
        have GL := G.l
        have G0 := G.c0
        have G1 := G.c1
        have R0 := G.r0
        have R1 := G.r1
        simp only at GL G0 G1 R0 R1
        clear G
        have HGL : Hid (l'.length = n) := GL.trans HLN.out
        clear GL
        go_wp2_with fail
        go_roundw
        case rel => exact ⟨i + 1, gx', ⟨ph', cy', l', rs'⟩, by omega, by go_num, HGL.out, G0, by simp only; omega, R0, by simp only; omega, BF.out⟩
        case measure => simp [intOf]; omega
      · obtain ⟨v, s', hv⟩ : ∃ v s', endF s = (v, s') := ⟨_, _, rfl⟩
        have G : Good s s' := by have := good_end s hcy0 hrs0; rw [hv] at this; exact this
        have B1 := B.same ((Turns.refl (fun _ => False) wr).alloc (.cells #[.int .i64 zk, .int .i64 zp, .bool ze, .bool zf] 31))
        have C1 := B1.first (s_end B1.p)
        rw [hv] at C1
        have o1 : (wr.alloc (.cells #[.int .i64 zk, .int .i64 zp, .bool ze, .bool zf] 31)).heap[wr.heap.size]? = _ := heap_new rfl
        refine Calls.mono C1 ?_
        rintro e w4 ⟨rfl, HF⟩
        have C2 := HF.second (v := v) (s' := s') (by rw [← hv]; exact r_end HF.r)
        clear C1 B1 o1 HF B
        have HV := Lib.hid hv
        clear hv
        go_wp2_with fail
        refine Calls.mono C2 ?_
        rintro e w5 ⟨gx', rfl, B5⟩
        clear C2
        obtain ⟨ph', cy', l', rs'⟩ := s'
        have hvv : (v != v) = false := by simp
        have c1 := B5.r.c1
        have c2 := B5.r.c2
        have c3 := B5.r.c3
        obtain ⟨qv, hqv⟩ : ∃ x, (decide (ph' = 1) && allSaid l') = x := ⟨_, rfl⟩
        have P13 := fun q => (phase_any (B5.p.drewN q)).mono (fun _ _ h => And.intro h.1 h.2.symm)
        have P18 := fun q => (cycle_any (B5.p.drewN q)).mono (fun _ _ h => And.intro h.1 h.2.symm)
        have P11 := fun q => (restarts_any (B5.p.drewN q)).mono (fun _ _ h => And.intro h.1 h.2.symm)
        have P10 := fun q => quiet_any (B5.p.drewN q)
        have eq : qt ph' (cnt l') l'.length = qv := by rw [← hqv]; exact qt_cnt ⟨ph', cy', l', rs'⟩
        have P19 := fun q => (rquiet_any (B5.r.later (drewN_turns w5 q) (fun x => x) (fun x => x))).mono (fun _ _ h => And.intro h.1 h.2.symm)
        simp only [eq, hqv] at P10 P19
        simp only at c1 c2 c3 P13 P18 P11
        have EQ := Lib.hid eq
        have HQV := Lib.hid hqv
        clear eq hqv
        go_wp2_with fail
        go_quiet ((first | (go_at_call 13; exact Calls.quiet_of_same (P13 _)) | (go_at_call 18; exact Calls.quiet_of_same (P18 _)) | (go_at_call 11; exact Calls.quiet_of_same (P11 _)) | (go_at_call 10; exact Calls.quiet_of (P10 _)) | (go_at_call 19; exact Calls.quiet_of_same (P19 _))))
        have B9 := B5.same (drewN_turns w5 nq)
        clear B5 c1 c2 c3 P13 P18 P11 P10 P19
        have BF := Lib.hid B9
        clear B9
        have GL := G.l
        have G0 := G.c0
        have G1 := G.c1
        have R0 := G.r0
        have R1 := G.r1
        simp only at GL G0 G1 R0 R1
        clear G
        have HGL : Hid (l'.length = n) := GL.trans HLN.out
        clear GL
        go_wp2_with fail
        go_roundw
        case rel => exact ⟨i + 1, gx', ⟨ph', cy', l', rs'⟩, by omega, by go_num, HGL.out, G0, by simp only; omega, R0, by simp only; omega, BF.out⟩
        case measure => simp [intOf]; omega
      · obtain ⟨v, s', hv⟩ : ∃ v s', sayF s zp ze zf = (v, s') := ⟨_, _, rfl⟩
        have G : Good s s' := by have := good_say s zp ze zf hcy0 hrs0; rw [hv] at this; exact this
        have B1 := B.same ((Turns.refl (fun _ => False) wr).alloc (.cells #[.int .i64 zk, .int .i64 zp, .bool ze, .bool zf] 31))
        have C1 := B1.first' (s_say zp ze zf B1.p (by omega))
        rw [hv] at C1
        have o1 : Row (wr.alloc (.cells #[.int .i64 zk, .int .i64 zp, .bool ze, .bool zf] 31)) wr.heap.size 31 [.int .i64 zk, .int .i64 zp, .bool ze, .bool zf] := heap_new rfl
        have hob := B.p.row.lt
        have hog := B.p.said.lt
        refine Calls.mono C1 ?_
        rintro e w4 ⟨rfl, HF, tt⟩
        have C2 := HF.second (v := v) (s' := s') (by rw [← hv]; exact r_say zp ze zf HF.r (by omega))
        have o4 := o1.later tt (fun x => by rcases x with x | x <;> omega)
        have oc1 := o4.cell 1 _ rfl
        have oc2 := o4.cell 2 _ rfl
        have oc3 := o4.cell 3 _ rfl
        clear C1 B1 o1 HF B tt o4 hob hog
        have HV := Lib.hid hv
        clear hv
        go_wp2_with fail
        refine Calls.mono C2 ?_
        rintro e w5 ⟨gx', rfl, B5⟩
        clear C2 oc1 oc2 oc3
        obtain ⟨ph', cy', l', rs'⟩ := s'
        have hvv : (v != v) = false := by simp
        have c1 := B5.r.c1
        have c2 := B5.r.c2
        have c3 := B5.r.c3
        obtain ⟨qv, hqv⟩ : ∃ x, (decide (ph' = 1) && allSaid l') = x := ⟨_, rfl⟩
        have P13 := fun q => (phase_any (B5.p.drewN q)).mono (fun _ _ h => And.intro h.1 h.2.symm)
        have P18 := fun q => (cycle_any (B5.p.drewN q)).mono (fun _ _ h => And.intro h.1 h.2.symm)
        have P11 := fun q => (restarts_any (B5.p.drewN q)).mono (fun _ _ h => And.intro h.1 h.2.symm)
        have P10 := fun q => quiet_any (B5.p.drewN q)
        have eq : qt ph' (cnt l') l'.length = qv := by rw [← hqv]; exact qt_cnt ⟨ph', cy', l', rs'⟩
        have P19 := fun q => (rquiet_any (B5.r.later (drewN_turns w5 q) (fun x => x) (fun x => x))).mono (fun _ _ h => And.intro h.1 h.2.symm)
        simp only [eq, hqv] at P10 P19
        simp only at c1 c2 c3 P13 P18 P11
        have EQ := Lib.hid eq
        have HQV := Lib.hid hqv
        clear eq hqv
        go_wp2_with fail
        go_quiet ((first | (go_at_call 13; exact Calls.quiet_of_same (P13 _)) | (go_at_call 18; exact Calls.quiet_of_same (P18 _)) | (go_at_call 11; exact Calls.quiet_of_same (P11 _)) | (go_at_call 10; exact Calls.quiet_of (P10 _)) | (go_at_call 19; exact Calls.quiet_of_same (P19 _))))
        have B9 := B5.same (drewN_turns w5 nq)
        clear B5 c1 c2 c3 P13 P18 P11 P10 P19
        have BF := Lib.hid B9
        clear B9
        have GL := G.l
        have G0 := G.c0
        have G1 := G.c1
        have R0 := G.r0
        have R1 := G.r1
        simp only at GL G0 G1 R0 R1
        clear G
        have HGL : Hid (l'.length = n) := GL.trans HLN.out
        clear GL
        go_wp2_with fail
        go_roundw
        case rel => exact ⟨i + 1, gx', ⟨ph', cy', l', rs'⟩, by omega, by go_num, HGL.out, G0, by simp only; omega, R0, by simp only; omega, BF.out⟩
        case measure => simp [intOf]; omega
    · have hex : (i : Int) < (len : Int) → ¬ ((i : Int) < 100) := by omega
      have TB := B.t
      clear B
      by_cases h1 : (i : Int) < (len : Int)
      all_goals
        first
          | have h2 := hex h1
          | have h2 : True := trivial
        clear hex hlt
        go_wp2_with fail
        refine (told_any _).mono ?_
        rintro e w2 ⟨rfl, t⟩
        have TF := Lib.hid ((TB.then (t.mono (E := fun j => w.heap.size ≤ j) fun _ x _ => x.elim)).mono (E := fun _ => False) fun j hj hj' => (by omega : False))
        clear TB t
        go_wp2_with fail
        go_ret
        exact ⟨rfl, TF.out⟩

theorem plays_walk (a0 : Int) (_w0 : (Lit.int .i64 a0).wf = true) (a : Option Addr) (len cap : Nat) (z : Nat → OpR) {w : World} (h : IsOps w a len z) :
    Calls Try.prog 4 #[.int .i64 a0, .slice a len cap] w fun e w' => e = .returned (.bool true) ∧ Below w.heap.size w w' := by
  by_cases hl : a0 < 1 ∨ 64 < a0
  · exact (plays_bad a0 a len cap w hl).mono fun _ _ ⟨he, ht⟩ => ⟨he, ht.toBelow (Nat.le_refl _) fun _ _ x => x⟩
  · obtain ⟨n, rfl⟩ : ∃ n : Nat, a0 = n := ⟨a0.toNat, by omega⟩
    exact (plays_any n a len cap z w (by omega) (by omega) h).mono fun _ _ ⟨he, ht⟩ => ⟨he, ht.toBelow (Nat.le_refl _) fun _ _ x => x⟩
end Go.Proofs.Ytilcdoilmdcpbaa
