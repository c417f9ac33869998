/- code: the reference's Decode by contract. Printed by wip/tools/rdec_gen.py. -/
import Derived.Test.YtedgeoigapilnaaDec
import Derived.Test.YtedgeoigapilnaaRwrong
namespace Go.Proofs.Ytedgeoigapilnaa
open Go.RowKit
set_option linter.unusedSimpArgs false

set_option maxHeartbeats 4000000 in
set_option maxRecDepth 100000 in
theorem bad_any (i : Int) (w : World) : Calls Try.prog 23 #[.int .i64 i] w fun e w' => e = .returned (.tuple #[.agg #[.int .i64 0, .slice none 0 0], .int .i64 6, .int .i64 i]) ∧ Turns (fun _ => False) w w' := by
  go_enter Try.func23, Try.ntmps23
  go_wp2_with fail
  refine bodyPost_ret (v := .tuple #[.agg #[.int .i64 0, .slice none 0 0], .int .i64 6, .int .i64 i]) (by simp [results, Try.results23, go_sem]) rfl ⟨rfl, ?_⟩
  exact (Turns.refl _ _).alloc _

theorem rdec_results {w : World} {tmps : Array Value} {r : Nat} {x0 x1 y z : Value} (h2 : tmps[2]? = some (.pointer (some ⟨r, 0, none⟩))) (h3 : tmps[3]? = some y) (h4 : tmps[4]? = some z)
    (hr : Row w r 24 [x0, x1]) : (results Try.f17 tmps).run Try.prog w = .ok (.tuple #[.agg #[x0, x1], y, z]) w := by
  have r0 := hr.cell 0 _ rfl
  have r1 := hr.cell 1 _ rfl
  simp [results, Try.results17, go_sem, h2, h3, h4, r0, r1]

theorem rdec_turns {w w1 w2 : World} {D : Nat → Prop} (T1 : Turns (fun _ => False) w w1) (T : Turns D w1 w2) (hD : ∀ j, D j → w.heap.size ≤ j) : Turns (fun _ => False) w w2 :=
  T1.trans (E := fun _ => False) T (fun j h _ => h.elim) (fun j h h' => by have := hD j h; omega)
theorem rdec_bad {w w1 w2 : World} {a : Act} {r i : Nat} {D : Nat → Prop} {res : Except Nat Pr} {u0 u1 : Value} {iv : Int} (hres : res = .error i) (hd : a.defers = [])
    (h2 : a.tmps[2]? = some (.pointer (some ⟨r, 0, none⟩))) (h3 : a.tmps[3]? = some (.int .i64 6)) (h4 : a.tmps[4]? = some (.int .i64 iv))
    (hr : Row w2 r 24 [u0, u1]) (T1 : Turns (fun _ => False) w w1) (T : Turns D w1 w2) (hD : ∀ j, D j → w.heap.size ≤ j) (hw : w.heap.size ≤ r) (hiv : iv = (i : Int)) :
    bodyPost Try.prog Try.f17 (DecPost w res) .ret a ((w2.setCell ⟨r, 0, none⟩ (.int .i64 0)).setCell ⟨r, 1, none⟩ (.slice none 0 0)) := by
  obtain ⟨tmps, defers⟩ := a
  simp only at hd h2 h3 h4
  subst hd hres hiv
  have T' : Turns (fun x => w.heap.size ≤ x) w1 ((w2.setCell ⟨r, 0, none⟩ (.int .i64 0)).setCell ⟨r, 1, none⟩ (.slice none 0 0)) := ((T.mono (fun j h _ => hD j h)).setCell (Or.inl hw) _).setCell (Or.inl hw) _
  exact bodyPost_ret (rdec_results h2 h3 h4 ((hr.set 0 _).set 1 _)) rfl ⟨rdec_turns T1 T' (fun j h => h), rfl⟩
theorem rdec_ok {w w1 w2 : World} {a : Act} {r : Nat} {g : Int} {v : Value} {D : Nat → Prop} {res : Except Nat Pr} {fs : List (List In)} (hres : res = .ok ⟨g, fs⟩) (hd : a.defers = [])
    (h2 : a.tmps[2]? = some (.pointer (some ⟨r, 0, none⟩))) (h3 : a.tmps[3]? = some (.int .i64 0)) (h4 : a.tmps[4]? = some (.int .i64 0))
    (hr : Row w2 r 24 [.int .i64 g, v]) (hF : Funcs w2 v fs) (T1 : Turns (fun _ => False) w w1) (T : Turns D w1 w2) (hD : ∀ j, D j → w.heap.size ≤ j) :
    bodyPost Try.prog Try.f17 (DecPost w res) .ret a w2 := by
  obtain ⟨tmps, defers⟩ := a
  simp only at hd h2 h3 h4
  subst hd hres
  exact bodyPost_ret (rdec_results h2 h3 h4 hr) rfl ⟨rdec_turns T1 T hD, v, rfl, hF⟩
theorem byteI_out {zs : List Int} {i k : Nat} {W : In → Int} {x : In} (h : zs.length ≤ i + k) : byteI zs i W k x = .error zs.length := by unfold byteI; rw [if_pos h]
theorem byteI_err {zs : List Int} {i k : Nat} {W : In → Int} {x : In} (h : ¬ zs.length ≤ i + k) (h0 : 0 ≤ W (setI x k (zs.getD (i + k) 0))) (hk : W (setI x k (zs.getD (i + k) 0)) ≤ k) : byteI zs i W k x = .error (i + (W (setI x k (zs.getD (i + k) 0))).toNat) := by
  unfold byteI; rw [if_neg h, if_pos ⟨h0, hk⟩]
theorem byteI_ok {zs : List Int} {i k : Nat} {W : In → Int} {x : In} (h : ¬ zs.length ≤ i + k) (h0 : ¬ (0 ≤ W (setI x k (zs.getD (i + k) 0)) ∧ W (setI x k (zs.getD (i + k) 0)) ≤ k)) : byteI zs i W k x = .ok (setI x k (zs.getD (i + k) 0)) := by
  unfold byteI; rw [if_neg h, if_neg h0]
theorem instR_err {zs : List Int} {i k e : Nat} {W : In → Int} {x : In} (hk : k < 4) (h : byteI zs i W k x = .error e) : instR zs i W (4 - k) x = .error e := by rw [instR_step _ _ _ _ _ hk, h]
theorem instR_ok {zs : List Int} {i k : Nat} {W : In → Int} {x y : In} (hk : k < 4) (h : byteI zs i W k x = .ok y) : instR zs i W (4 - k) x = instR zs i W (4 - (k + 1)) y := by rw [instR_step _ _ _ _ _ hk, h]

/-- 'append(l, instruction)' as a step of a region that draws. -/
theorem step_append_inst {w : World} {ops : Array Oper} {o : Oper} {a : Act} {K : Act → World → Prop} {Q : Exit → Act → World → Prop} {E : Prop} (hgd : o.guard = none) (s y : Operand)
    (ho : o.op = .call { callee := .builtin .append, args := #[s, y], argTypes := #[38, 38] }) (B : Nat) (v : Value) (l : List In) (b c : Nat) (x : In)
    (hsv : a.eval s = v) (hyv : a.eval y = .slice (some ⟨b, 0, none⟩) 1 c) (hv : IV w B v l) (hx : Row w b 37 (ic x))
    (hb : l.length ≤ 100000) (hB : B ≤ w.heap.size)
    (h : ∀ v' w', IV w' B v' (l ++ [x]) → Grew w w' v B → Lies w v v' → K (a.put o.dst v') w') :
    if Region.wanted o (yielded ops a.tmps) = true then Oper.wp Try.prog o a w K Q else E := by
  obtain ⟨i, hi, hz0, hz1, hz2⟩ := info_parts Try.info37
  refine step_append_view hgd s y 38 37 4 32 _ i ho Try.underlying38 hi hz0 hz1 hz2 rfl B v _ l.length 1 (flat l) (ic x) hsv hyv hv ?_ (by unfold maxLen; omega) (by omega) hB ?_
  · refine Src.ofSlice w Try.underlying38 ⟨b, 0, none⟩ 1 c (ic x) rfl (fun k u hu => ?_) (fun u hu => flat_one [x] u (by simpa [flat] using hu))
    rw [Addr.add_lit, Nat.zero_add]
    exact hx.cell k u hu
  · intro v' w' hv' hg hw
    refine h v' w' ?_ hg hw
    unfold IV
    rw [flat_append, List.length_append]
    exact hv'

set_option maxHeartbeats 8000000 in
set_option maxRecDepth 100000 in
theorem rdecode_any (a : Option Addr) (n cap : Nat) (zs : List Int) (w : World) (B : IsBytes w a n zs) (hn : n ≤ 1000000) :
    Calls Try.prog 17 #[.slice a n cap] w (DecPost w (decR zs)) := by
  obtain ⟨w1, hw1⟩ : ∃ w1, (w.alloc (.cells #[.int .i64 0, .slice none 0 0] 24)).alloc (.cells #[.int .i64 0, .slice none 0 0] 24) = w1 := ⟨_, rfl⟩
  have T1 : Turns (fun _ => False) w w1 := by subst hw1; exact ((Turns.refl _ _).alloc _).alloc _
  have R1 : Row w1 w.heap.size 24 [.int .i64 0, .slice none 0 0] := by subst hw1; exact Row.alloc (heap_new rfl) _
  have R2 : Row w1 (w.heap.size + 1) 24 [.int .i64 0, .slice none 0 0] := by subst hw1; exact heap_new (by simp)
  have Z1 : w1.heap.size = w.heap.size + 1 + 1 := by subst hw1; simp
  have HZ1 := Lib.hid Z1
  have H1 := Lib.hid hw1
  have HT1 := Lib.hid T1
  have HR1 := Lib.hid R1
  have HR2 := Lib.hid R2
  clear hw1 Z1 T1 R1 R2
  have HT0 := Lib.hid (Turns.refl (fun x => x = w.heap.size + 1) w1)
  have hlen := Lib.hid B.len
  by_cases hn0 : n = 0
  · subst hn0
    have HS : Hid (decR zs = .error 0) := Lib.hid (by rw [decR_err0 (e := zs.length) (by unfold byteR; rw [if_pos (by rw [hlen.out]; omega)]), hlen.out])
    go_enter Try.func17, Try.ntmps17
    go_wp2_with fail
    rw [H1.out]
    refine (bad_any 0 _).mono ?_
    rintro e wb ⟨rfl, Tb⟩
    have HTb := Lib.hid (HT0.out.then (Tb.mono fun _ x _ => x.elim))
    have RB := HR1.out.later HTb.out (by omega)
    have rb0 := RB.cell 0 _ rfl
    have rb1 := RB.cell 1 _ rfl
    have rf0 := RB.free 0
    have rf1 := RB.free 1
    have rl := RB.lt
    have HRB := Lib.hid RB
    clear Tb RB
    go_wp2_with fail
    exact rdec_bad HS.out rfl rfl rfl rfl HRB.out HT1.out HTb.out (fun j h => by omega) (Nat.le_refl _) rfl
  obtain ⟨z0l, z0h⟩ := B.bound 0 (by omega)
  obtain ⟨bb, bo, rfl, hbb, hb0⟩ := B.at_ 0 (by omega)
  simp only [Nat.add_zero] at hb0
  have hbb1 : bb < w.heap.size + 1 := by omega
  have d0 : decide ((n : Int) < 1) = false := by simp; omega
  have k0 : (0 : Int) < (n : Int) := by omega
  have k0' : 0 < n := by omega
  cases hr0 : byteR zs 0 1 16 with
  | error e0 =>
    have he : e0 = 0 ∧ (zs.getD 0 0 < 1 ∨ 16 < zs.getD 0 0) := by
      rcases byteR_error hr0 with ⟨h, _⟩ | ⟨_, h, h'⟩
      · rw [hlen.out] at h; omega
      · exact ⟨h, h'⟩
    obtain ⟨rfl, hz⟩ := he
    have HS := Lib.hid (decR_err0 hr0)
    clear hr0
    generalize zs.getD 0 0 = v0 at hb0 z0l z0h hz
    by_cases hv : v0 < 1
    · have d1 : decide (v0 < 1) = true := by simpa using hv
      clear hv hz
      go_enter Try.func17, Try.ntmps17
      go_wp2_with fail
      rw [H1.out]
      refine (bad_any 0 _).mono ?_
      rintro e wb ⟨rfl, Tb⟩
      have HTb := Lib.hid (HT0.out.then (Tb.mono fun _ x _ => x.elim))
      have RB := HR1.out.later HTb.out (by omega)
      have rb0 := RB.cell 0 _ rfl
      have rb1 := RB.cell 1 _ rfl
      have rf0 := RB.free 0
      have rf1 := RB.free 1
      have rl := RB.lt
      have HRB := Lib.hid RB
      clear Tb RB
      go_wp2_with fail
      exact rdec_bad HS.out rfl rfl rfl rfl HRB.out HT1.out HTb.out (fun j h => by omega) (Nat.le_refl _) rfl
    · have d1 : decide (v0 < 1) = false := by simpa using hv
      have d2 : decide (16 < v0) = true := by simp; omega
      clear hv hz
      go_enter Try.func17, Try.ntmps17
      go_wp2_with fail
      rw [H1.out]
      refine (bad_any 0 _).mono ?_
      rintro e wb ⟨rfl, Tb⟩
      have HTb := Lib.hid (HT0.out.then (Tb.mono fun _ x _ => x.elim))
      have RB := HR1.out.later HTb.out (by omega)
      have rb0 := RB.cell 0 _ rfl
      have rb1 := RB.cell 1 _ rfl
      have rf0 := RB.free 0
      have rf1 := RB.free 1
      have rl := RB.lt
      have HRB := Lib.hid RB
      clear Tb RB
      go_wp2_with fail
      exact rdec_bad HS.out rfl rfl rfl rfl HRB.out HT1.out HTb.out (fun j h => by omega) (Nat.le_refl _) rfl
  | ok v0 =>
    obtain ⟨_, hv0, v01, v016⟩ := byteR_ok hr0
    rw [← hv0] at hb0 z0l z0h
    have HR0 := Lib.hid hr0
    clear hv0 hr0 z0l z0h
    have d1 : decide (v0 < 1) = false := by simp; omega
    have d2 : decide (16 < v0) = false := by simp; omega
    have HB := Lib.hid B
    cases hr1 : byteR zs 1 0 32 with
    | error e1 =>
      have HS := Lib.hid (decR_err1 HR0.out hr1)
      by_cases hn1 : n < 2
      · have he : e1 = 1 := by
          rcases byteR_error hr1 with ⟨_, h⟩ | ⟨h, _, _⟩
          · rw [hlen.out] at h; omega
          · rw [hlen.out] at h; omega
        subst he
        have d3 : decide ((n : Int) < 2) = true := by simp; omega
        clear hr1
        go_enter Try.func17, Try.ntmps17
        go_wp2_with fail
        rw [H1.out]
        refine (bad_any 1 _).mono ?_
        rintro e wb ⟨rfl, Tb⟩
        have HTb := Lib.hid (HT0.out.then (Tb.mono fun _ x _ => x.elim))
        have RB := HR1.out.later HTb.out (by omega)
        have rb0 := RB.cell 0 _ rfl
        have rb1 := RB.cell 1 _ rfl
        have rf0 := RB.free 0
        have rf1 := RB.free 1
        have rl := RB.lt
        have HRB := Lib.hid RB
        clear Tb RB
        go_wp2_with fail
        exact rdec_bad HS.out rfl rfl rfl rfl HRB.out HT1.out HTb.out (fun j h => by omega) (Nat.le_refl _) rfl
      · obtain ⟨z1l, z1h⟩ := HB.out.bound 1 (by omega)
        obtain ⟨b', o', hbo, _, hb1⟩ := HB.out.at_ 1 (by omega)
        cases hbo
        have he : e1 = 1 ∧ 32 < zs.getD 1 0 := by
          rcases byteR_error hr1 with ⟨h, _⟩ | ⟨_, h, h'⟩
          · rw [hlen.out] at h; omega
          · exact ⟨h, by omega⟩
        obtain ⟨rfl, hz⟩ := he
        clear hr1
        generalize zs.getD 1 0 = v1 at hb1 z1l z1h hz
        have d3 : decide ((n : Int) < 2) = false := by simp; omega
        have d4 : decide (32 < v1) = true := by simpa using hz
        have k1 : (1 : Int) < (n : Int) := by omega
        have k1' : 1 < n := by omega
        clear hz
        obtain ⟨w3, hw3⟩ : ∃ w3, (w.alloc (.cells #[.int .i64 0, .slice none 0 0] 24)).alloc (.cells #[.int .i64 v1, .slice none 0 0] 24) = w3 := ⟨_, rfl⟩
        have HT3 := Lib.hid (show Turns (fun _ => False) w w3 by subst hw3; exact ((Turns.refl _ _).alloc _).alloc _)
        have HR3 := Lib.hid (show Row w3 w.heap.size 24 [.int .i64 0, .slice none 0 0] by subst hw3; exact Row.alloc (heap_new rfl) _)
        have HT0' := Lib.hid (Turns.refl (fun x => x = w.heap.size + 1) w3)
        have H3 := Lib.hid hw3
        clear hw3
        go_enter Try.func17, Try.ntmps17
        go_wp2_with fail
        rw [H3.out]
        refine (bad_any 1 _).mono ?_
        rintro e wb ⟨rfl, Tb⟩
        have HTb := Lib.hid (HT0'.out.then (Tb.mono fun _ x _ => x.elim))
        have RB := HR3.out.later HTb.out (by omega)
        have rb0 := RB.cell 0 _ rfl
        have rb1 := RB.cell 1 _ rfl
        have rf0 := RB.free 0
        have rf1 := RB.free 1
        have rl := RB.lt
        have HRB := Lib.hid RB
        clear Tb RB
        go_wp2_with fail
        exact rdec_bad HS.out rfl rfl rfl rfl HRB.out HT3.out HTb.out (fun j h => by omega) (Nat.le_refl _) rfl
    | ok g =>
      obtain ⟨g1, gv, g0, g32⟩ := byteR_ok hr1
      obtain ⟨b', o', hbo, _, hb1⟩ := HB.out.at_ 1 (by rw [hlen.out] at g1; exact g1)
      cases hbo
      rw [← gv] at hb1
      rw [hlen.out] at g1
      have HR1' := Lib.hid hr1
      clear hr1 gv
      have d3 : decide ((n : Int) < 2) = false := by simp; omega
      have d4 : decide (32 < g) = false := by simp; omega
      have k1 : (1 : Int) < (n : Int) := by omega
      have k1' : 1 < n := by omega
      obtain ⟨w3, hw3⟩ : ∃ w3, (w.alloc (.cells #[.int .i64 0, .slice none 0 0] 24)).alloc (.cells #[.int .i64 g, .slice none 0 0] 24) = w3 := ⟨_, rfl⟩
      have HT3 := Lib.hid (show Turns (fun _ => False) w w3 by subst hw3; exact ((Turns.refl _ _).alloc _).alloc _)
      have HR3 := Lib.hid (show Row w3 w.heap.size 24 [.int .i64 0, .slice none 0 0] by subst hw3; exact Row.alloc (heap_new rfl) _)
      have HP3 := Lib.hid (show Row w3 (w.heap.size + 1) 24 [.int .i64 g, .slice none 0 0] by subst hw3; exact heap_new (by simp))
      have HZ3 := Lib.hid (show w3.heap.size = w.heap.size + 2 by subst hw3; simp)
      obtain ⟨N, rfl⟩ : ∃ N : Nat, v0 = (N : Int) := ⟨v0.toNat, by omega⟩
      have H3 := Lib.hid hw3
      clear hw3 H1 HR1 HR2 HT1 HZ1 HT0
      go_enter Try.func17, Try.ntmps17
      go_wp2_with fail
      rw [H3.out]
      clear H3 d0 d1 d2 d3 d4 k0 k0' k1 k1' hb0 hb1 hbb1
      have hb3 : ((N : Int)).toNat = N := Int.toNat_natCast N
      clear hb3
      go_loopw [7, 8] (fun av kv wr => ∃ (k : Nat) (fs : List (List In)) (ov : Value) (i : Nat), k ≤ N ∧ kv = .int .i64 (k : Int) ∧ av = .int .i64 (i : Int) ∧ i ≤ n ∧ Hid (fs.length = k ∧ funcsR zs g N (N - k) i fs = funcsR zs g N N 2 []) ∧
          Row wr (w.heap.size + 1) 24 [.int .i64 g, ov] ∧ FV wr (w.heap.size + 2) ov fs ∧ Turns (fun x => x = w.heap.size + 1) w3 wr)
        (fun _ kv _ => N - (intOf kv).toNat)
      case atStart => exact ⟨0, [], _, 2, by omega, rfl, rfl, by omega, Lib.hid ⟨rfl, rfl⟩, HP3.out, FV.nil _ _, Turns.refl _ _⟩
      case round =>
        clear HP3
        obtain ⟨k, fs, ov, i, hk, rfl, rfl, hin, hsp, P, F, T⟩ := hrel
        by_cases h4 : k < N
        · have HN := Lib.hid (show N - k = (N - (k + 1)) + 1 by omega)
          have HP := Lib.hid P
          have HF := Lib.hid F
          have HT := Lib.hid T
          clear P F T
          cases hb : byteR zs i 1 64 with
          | error e =>
            have HS := Lib.hid (decR_err HR0.out HR1'.out (by rw [← hsp.out.2, HN.out]; exact funcsR_err0 hb))
            by_cases hout : n ≤ i
            · have he : e = n := by
                rcases byteR_error hb with ⟨_, h⟩ | ⟨h, _, _⟩
                · rw [h, hlen.out]
                · rw [hlen.out] at h; omega
              subst he
              have d0 : decide (e ≤ i) = true := by simpa using hout
              clear hb
              go_wp2_with fail
              refine (bad_any _ _).mono ?_
              rintro e wb ⟨rfl, Tb⟩
              have HTb := Lib.hid (HT.out.then (Tb.mono fun _ x _ => x.elim))
              have RB := HR3.out.later HTb.out (by omega)
              have rb0 := RB.cell 0 _ rfl
              have rb1 := RB.cell 1 _ rfl
              have rf0 := RB.free 0
              have rf1 := RB.free 1
              have rl := RB.lt
              have HRB := Lib.hid RB
              clear Tb RB
              go_wp2_with fail
              exact rdec_bad HS.out rfl rfl rfl rfl HRB.out HT3.out HTb.out (fun j h => by omega) (Nat.le_refl _) rfl
            · have he : e = i ∧ (zs.getD i 0 < 1 ∨ 64 < zs.getD i 0) := by
                rcases byteR_error hb with ⟨h, _⟩ | ⟨_, h, h'⟩
                · rw [hlen.out] at h; omega
                · exact ⟨h, h'⟩
              obtain ⟨rfl, hz⟩ := he
              obtain ⟨zl, zh⟩ := HB.out.bound e (by omega)
              obtain ⟨b', o', hbo, _, hc⟩ := HB.out.at_ e (by omega)
              cases hbo
              have hcw := HT.out.cell (HT3.out.cell hc (fun x => x)) (by show ¬ (bb = w.heap.size + 1); omega)
              clear hb hc
              generalize zs.getD e 0 = v at hcw zl zh hz
              have d0 : decide (n ≤ e) = false := by simp; omega
              have k0 : (0 : Int) ≤ (e : Int) := by omega
              have k1 : e < n := by omega
              clear hout
              by_cases hv : v < 1
              · have d1 : decide (v < 1) = true := by simpa using hv
                clear hv hz
                go_wp2_with fail
                refine (bad_any _ _).mono ?_
                rintro e wb ⟨rfl, Tb⟩
                have HTb := Lib.hid (HT.out.then (Tb.mono fun _ x _ => x.elim))
                have RB := HR3.out.later HTb.out (by omega)
                have rb0 := RB.cell 0 _ rfl
                have rb1 := RB.cell 1 _ rfl
                have rf0 := RB.free 0
                have rf1 := RB.free 1
                have rl := RB.lt
                have HRB := Lib.hid RB
                clear Tb RB
                go_wp2_with fail
                exact rdec_bad HS.out rfl rfl rfl rfl HRB.out HT3.out HTb.out (fun j h => by omega) (Nat.le_refl _) rfl
              · have d1 : decide (v < 1) = false := by simpa using hv
                have d2 : decide (64 < v) = true := by simp; omega
                clear hv hz
                go_wp2_with fail
                refine (bad_any _ _).mono ?_
                rintro e wb ⟨rfl, Tb⟩
                have HTb := Lib.hid (HT.out.then (Tb.mono fun _ x _ => x.elim))
                have RB := HR3.out.later HTb.out (by omega)
                have rb0 := RB.cell 0 _ rfl
                have rb1 := RB.cell 1 _ rfl
                have rf0 := RB.free 0
                have rf1 := RB.free 1
                have rl := RB.lt
                have HRB := Lib.hid RB
                clear Tb RB
                go_wp2_with fail
                exact rdec_bad HS.out rfl rfl rfl rfl HRB.out HT3.out HTb.out (fun j h => by omega) (Nat.le_refl _) rfl
          | ok s =>
            obtain ⟨slt, sv, s1, s64⟩ := byteR_ok hb
            rw [hlen.out] at slt
            obtain ⟨S, rfl⟩ : ∃ S : Nat, s = (S : Int) := ⟨s.toNat, by omega⟩
            obtain ⟨b', o', hbo, _, hc⟩ := HB.out.at_ i slt
            cases hbo
            rw [← sv] at hc
            have hcw := HT.out.cell (HT3.out.cell hc (fun x => x)) (by show ¬ (bb = w.heap.size + 1); omega)
            clear hc sv
            have HGe : Hid (∀ e, instsR zs g N S S (i + 1) [] = .error e → decR zs = .error e) :=
              Lib.hid fun e he => decR_err HR0.out HR1'.out (by rw [← hsp.out.2, HN.out]; exact funcsR_err hb he)
            have HGo : Hid (∀ l j, instsR zs g N S S (i + 1) [] = .ok (l, j) → funcsR zs g N (N - (k + 1)) j (fs ++ [l]) = funcsR zs g N N 2 []) :=
              Lib.hid fun l j he => by rw [← hsp.out.2, HN.out]; exact (funcsR_ok hb he).symm
            clear hb
            have d0 : decide (n ≤ i) = false := by simp; omega
            have d1 : decide ((S : Int) < 1) = false := by simp; omega
            have d2 : decide ((64 : Int) < (S : Int)) = false := by simp; omega
            have k0 : (0 : Int) ≤ (i : Int) := by omega
            obtain ⟨wo, rfl⟩ : ∃ wo : World, wo = wr := ⟨_, rfl⟩
            go_wp2_with fail
            clear d0 d1 d2 k0 hcw
            go_loopw [7, 10, 11] (fun av lv jv wm => ∃ (j : Nat) (l : List In), j ≤ S ∧ jv = .int .i64 (j : Int) ∧ av = .int .i64 ((i + 1 + 4 * j : Nat) : Int) ∧ i + 1 + 4 * j ≤ n ∧ Hid (l.length = j ∧ instsR zs g N S (S - j) (i + 1 + 4 * j) l = instsR zs g N S S (i + 1) []) ∧
                IV wm wo.heap.size lv l ∧ Turns (fun _ => False) wo wm)
              (fun _ _ jv _ => S - (intOf jv).toNat)
            case atStart => exact ⟨0, [], by omega, rfl, by go_num, by omega, Lib.hid ⟨rfl, rfl⟩, View.zero _ _ _ _, Turns.refl _ _⟩
            case round =>
              obtain ⟨j, l, hj, rfl, rfl, hjn, hsi, V, TM⟩ := hrel
              by_cases hjS : j < S
              · obtain ⟨wm, rfl⟩ : ∃ wm : World, wm = wr := ⟨_, rfl⟩
                have HSj := Lib.hid (show S - j = (S - (j + 1)) + 1 by omega)
                have HV := Lib.hid V
                have HTM := Lib.hid TM
                clear V TM
                obtain ⟨I, hI⟩ : ∃ I, i + 1 + 4 * j = I := ⟨_, rfl⟩
                rw [hI] at hjn hsi
                rw [hI]
                have HI := Lib.hid hI
                clear hI
                have HL0 := Lib.hid HTM.out.size
                have RQ : Row (wm.alloc (.cells #[.int .i64 0, .int .i64 0, .int .i64 0, .int .i64 0] 3)) wm.heap.size 3 (ic in0) := heap_new rfl
                have HRQ := Lib.hid RQ
                clear RQ
                go_wp2_with fail
                go_loopw [13] (fun qv w5 => ∃ (q : Nat) (x : In), q ≤ 4 ∧ qv = .int .i64 (q : Int) ∧ I + q ≤ n ∧ Hid (instR zs I (wrongI g N S) (4 - q) x = instR zs I (wrongI g N S) 4 in0) ∧ Row w5 wm.heap.size 3 (ic x) ∧
                    Turns (fun y => y = wm.heap.size) (wm.alloc (.cells #[.int .i64 0, .int .i64 0, .int .i64 0, .int .i64 0] 3)) w5)
                  (fun qv _ => 4 - (intOf qv).toNat)
                case atStart => exact ⟨0, in0, by omega, rfl, by omega, Lib.hid rfl, HRQ.out, Turns.refl _ _⟩
                case round =>
                  clear HRQ
                  obtain ⟨q, x, hq, rfl, hqn, hsq, RP, TQ⟩ := hrel
                  have TT : Turns (fun _ => False) wo wr := (HTM.out.alloc _).trans TQ (fun j h _ => h.elim) (fun j h h' => by have := HL0.out; have h : j = wm.heap.size := h; omega)
                  have TA := HT.out.then (TT.mono fun _ x _ => x.elim)
                  have hpw := HP.out.later TT (fun x => x)
                  have g0' := hpw.cell 0 _ rfl
                  have HTA := Lib.hid TA
                  have HTT := Lib.hid TT
                  have HTQ := Lib.hid TQ
                  have HRP := Lib.hid RP
                  clear TA TT TQ hpw
                  by_cases h44 : q < 4
                  · by_cases hout : n ≤ I + q
                    · have HS : Hid (decR zs = .error n) := Lib.hid (HGe.out n (by
                        rw [← hsi.out.2, HSj.out]
                        refine instsR_err ?_
                        rw [← hsq.out, ← hlen.out]
                        exact instR_err h44 (byteI_out (by rw [hlen.out]; exact hout))))
                      clear RP
                      go_wp2_with fail
                      refine (bad_any _ _).mono ?_
                      rintro e wb ⟨rfl, Tb⟩
                      have HTb := Lib.hid (HTA.out.then (Tb.mono fun _ x _ => x.elim))
                      have RB := HR3.out.later HTb.out (by omega)
                      have rb0 := RB.cell 0 _ rfl
                      have rb1 := RB.cell 1 _ rfl
                      have rf0 := RB.free 0
                      have rf1 := RB.free 1
                      have rl := RB.lt
                      have HRB := Lib.hid RB
                      clear Tb RB
                      go_wp2_with fail
                      exact rdec_bad HS.out rfl rfl rfl rfl HRB.out HT3.out HTb.out (fun j h => by omega) (Nat.le_refl _) rfl
                    · have f0 : decide (n ≤ I + q) = false := by simp; omega
                      obtain ⟨zl, zh⟩ := HB.out.bound (I + q) (by omega)
                      obtain ⟨b', o', hbo, _, hc⟩ := HB.out.at_ (I + q) (by omega)
                      cases hbo
                      have hcw := HTA.out.cell (HT3.out.cell hc (fun x => x)) (by show ¬ (bb = w.heap.size + 1); omega)
                      clear hc
                      have hsz : ¬ zs.length ≤ I + q := by rw [hlen.out]; exact hout
                      have He := Lib.hid (fun h0 hk => byteI_err (zs := zs) (i := I) (k := q) (W := wrongI g N S) (x := x) hsz h0 hk)
                      have Ho := Lib.hid (fun h0 => byteI_ok (zs := zs) (i := I) (k := q) (W := wrongI g N S) (x := x) hsz h0)
                      have Hset := Lib.hid (ic_set x q (zs.getD (I + q) 0) h44)
                      have hlt : I + q < n := by omega
                      clear hsz hout
                      generalize zs.getD (I + q) 0 = v at hcw zl zh He Ho Hset
                      generalize setI x q v = x' at He Ho Hset
                      have p0 := RP.cell q ((ic x).getD q (.int .i64 0)) (by have : (ic x).length = 4 := rfl; rw [List.getD_eq_getElem?_getD, List.getElem?_eq_getElem (by omega)]; rfl)
                      have pf := RP.free q
                      have pl := RP.lt
                      have hb1 : (0 : Int) ≤ (I : Int) + (q : Int) := by omega
                      have hb2 : (I : Int) + (q : Int) < (n : Int) := by omega
                      have hb3 : ((I : Int) + (q : Int)).toNat = I + q := by omega
                      clear RP
                      go_wp2_with fail
                      have RP6 := HRP.out.set q (.int .i64 v)
                      rw [Hset.out] at RP6
                      have TQ6 := HTQ.out.setCell (p := ⟨wm.heap.size, q, none⟩) (Or.inl rfl) (.int .i64 v)
                      have TT6 := HTT.out.setCell (p := ⟨wm.heap.size, q, none⟩) (Or.inr HL0.out) (.int .i64 v)
                      generalize wr.setCell ⟨wm.heap.size, q, none⟩ (.int .i64 v) = w6 at RP6 TQ6 TT6 ⊢
                      have HRP6 := Lib.hid RP6
                      have HTQ6 := Lib.hid TQ6
                      have HTT6 := Lib.hid TT6
                      clear RP6 TQ6 TT6 p0 pf pl hb1 hb2 hb3 hcw f0 g0' HRP HTQ HTT HTA Hset
                      refine wp_region_held_drew (S := (fun w' => w'.cell? ⟨wm.heap.size, 0, none⟩ = some (.int .i64 x'.op) ∧ w'.cell? ⟨wm.heap.size, 1, none⟩ = some (.int .i64 x'.a) ∧ w'.cell? ⟨wm.heap.size, 2, none⟩ = some (.int .i64 x'.b) ∧ w'.cell? ⟨wm.heap.size, 3, none⟩ = some (.int .i64 x'.c))) (by kernel_rfl) ?_ (fun hHeld => ?_)
                      · exact ⟨HRP6.out.cell 0 _ rfl, HRP6.out.cell 1 _ rfl, HRP6.out.cell 2 _ rfl, HRP6.out.cell 3 _ rfl⟩
                      refine wpAnyH_take (i := 0) (v := ?_) rfl (by kernel_rfl) (by kernel_rfl) (by kernel_rfl) (fun _ _ _ h => h) (Or.inl ⟨by rfl, ?_⟩) (by assumption) ?_
                      rotate_left
                      · (intro w' hSw; (try dsimp only at hSw); first | (go_simp; done) | (go_simp; with_reducible rfl))
                      try simp only [Act.put, List.getElem_toArray, List.getElem_cons_zero, List.getElem_cons_succ, List.setIfInBounds_toArray, List.set_cons_zero, List.set_cons_succ]
                      refine wpAnyH_take (i := 1) (v := ?_) rfl (by kernel_rfl) (by kernel_rfl) (by kernel_rfl) (fun _ _ _ h => h) (Or.inl ⟨by rfl, ?_⟩) (by assumption) ?_
                      rotate_left
                      · (intro w' hSw; (try dsimp only at hSw); first | (go_simp; done) | (go_simp; with_reducible rfl))
                      try simp only [Act.put, List.getElem_toArray, List.getElem_cons_zero, List.getElem_cons_succ, List.setIfInBounds_toArray, List.set_cons_zero, List.set_cons_succ]
                      refine wpAnyH_take (i := 2) (v := ?_) rfl (by kernel_rfl) (by kernel_rfl) (by kernel_rfl) (fun _ _ _ h => h) (Or.inl ⟨by rfl, ?_⟩) (by assumption) ?_
                      rotate_left
                      · (intro w' hSw; (try dsimp only at hSw); first | (go_simp; done) | (go_simp; with_reducible rfl))
                      try simp only [Act.put, List.getElem_toArray, List.getElem_cons_zero, List.getElem_cons_succ, List.setIfInBounds_toArray, List.set_cons_zero, List.set_cons_succ]
                      refine wpAnyH_take (i := 3) (v := ?_) rfl (by kernel_rfl) (by kernel_rfl) (by kernel_rfl) (fun _ _ _ h => h) (Or.inl ⟨by rfl, ?_⟩) (by assumption) ?_
                      rotate_left
                      · (intro w' hSw; (try dsimp only at hSw); first | (go_simp; done) | (go_simp; with_reducible rfl))
                      try simp only [Act.put, List.getElem_toArray, List.getElem_cons_zero, List.getElem_cons_succ, List.setIfInBounds_toArray, List.set_cons_zero, List.set_cons_succ]
                      refine wpAnyH_take (i := 4) (v := ?_) rfl (by kernel_rfl) (by kernel_rfl) (by kernel_rfl) (fun _ _ _ h => h) (Or.inl ⟨by rfl, ?_⟩) (by assumption) ?_
                      rotate_left
                      · (intro w' hSw; (try dsimp only at hSw); first | (go_simp; done) | (go_simp; with_reducible rfl))
                      try simp only [Act.put, List.getElem_toArray, List.getElem_cons_zero, List.getElem_cons_succ, List.setIfInBounds_toArray, List.set_cons_zero, List.set_cons_succ]
                      refine wpAnyH_take (i := 5) (v := ?_) rfl (by kernel_rfl) (by kernel_rfl) (by kernel_rfl) (fun _ _ _ h => h) (Or.inl ⟨by rfl, ?_⟩) (by assumption) ?_
                      rotate_left
                      · (intro w' hSw; (try dsimp only at hSw); first | (go_simp; done) | (go_simp; with_reducible rfl))
                      try simp only [Act.put, List.getElem_toArray, List.getElem_cons_zero, List.getElem_cons_succ, List.setIfInBounds_toArray, List.set_cons_zero, List.set_cons_succ]
                      refine wpAnyH_take (i := 6) (v := ?_) rfl (by kernel_rfl) (by kernel_rfl) (by kernel_rfl) (fun _ _ _ h => h) (Or.inl ⟨by rfl, ?_⟩) (by assumption) ?_
                      rotate_left
                      · (intro w' hSw; (try dsimp only at hSw); first | (go_simp; done) | (go_simp; with_reducible rfl))
                      try simp only [Act.put, List.getElem_toArray, List.getElem_cons_zero, List.getElem_cons_succ, List.setIfInBounds_toArray, List.set_cons_zero, List.set_cons_succ]
                      refine wpAnyH_take (i := 7) (v := ?_) rfl (by kernel_rfl) (by kernel_rfl) (by kernel_rfl) (fun _ _ _ h => h) (Or.inl ⟨by rfl, ?_⟩) (by assumption) ?_
                      rotate_left
                      · (intro w' hSw; (try dsimp only at hSw); first | (go_simp; done) | (go_simp; with_reducible rfl))
                      try simp only [Act.put, List.getElem_toArray, List.getElem_cons_zero, List.getElem_cons_succ, List.setIfInBounds_toArray, List.set_cons_zero, List.set_cons_succ]
                      refine wpAnyH_take (i := 8) (v := ?_) rfl (by kernel_rfl) (by kernel_rfl) (by kernel_rfl) (fun _ _ _ h => h) (Or.inl ⟨by rfl, ?_⟩) (by assumption) ?_
                      rotate_left
                      · (intro w' hSw; (try dsimp only at hSw); first | (go_simp; done) | (go_simp; with_reducible rfl))
                      try simp only [Act.put, List.getElem_toArray, List.getElem_cons_zero, List.getElem_cons_succ, List.setIfInBounds_toArray, List.set_cons_zero, List.set_cons_succ]
                      refine wpAnyH_take (i := 9) (v := ?_) rfl (by kernel_rfl) (by kernel_rfl) (by kernel_rfl) (fun _ _ _ h => h) (Or.inl ⟨by rfl, ?_⟩) (by assumption) ?_
                      rotate_left
                      · (intro w' hSw; (try dsimp only at hSw); first | (go_simp; done) | (go_simp; with_reducible rfl))
                      try simp only [Act.put, List.getElem_toArray, List.getElem_cons_zero, List.getElem_cons_succ, List.setIfInBounds_toArray, List.set_cons_zero, List.set_cons_succ]
                      refine wpAnyH_take (i := 10) (v := ?_) rfl (by kernel_rfl) (by kernel_rfl) (by kernel_rfl) (fun _ _ _ h => h) (Or.inl ⟨by rfl, ?_⟩) (by assumption) ?_
                      rotate_left
                      · (intro w' hSw; (try dsimp only at hSw); first | (go_simp; done) | (go_simp; with_reducible rfl))
                      try simp only [Act.put, List.getElem_toArray, List.getElem_cons_zero, List.getElem_cons_succ, List.setIfInBounds_toArray, List.set_cons_zero, List.set_cons_succ]
                      refine wpAnyH_take (i := 11) (v := ?_) rfl (by kernel_rfl) (by kernel_rfl) (by kernel_rfl) (fun _ _ _ h => h) (Or.inl ⟨by rfl, ?_⟩) (by assumption) ?_
                      rotate_left
                      · (intro w' hSw; (try dsimp only at hSw); first | (go_simp; done) | (go_simp; with_reducible rfl))
                      try simp only [Act.put, List.getElem_toArray, List.getElem_cons_zero, List.getElem_cons_succ, List.setIfInBounds_toArray, List.set_cons_zero, List.set_cons_succ]
                      refine wpAnyH_take (i := 12) (v := ?_) rfl (by kernel_rfl) (by kernel_rfl) (by kernel_rfl) (fun _ _ _ h => h) (Or.inl ⟨by rfl, ?_⟩) (by assumption) ?_
                      rotate_left
                      · (intro w' hSw; (try dsimp only at hSw); first | (go_simp; done) | (go_simp; with_reducible rfl))
                      try simp only [Act.put, List.getElem_toArray, List.getElem_cons_zero, List.getElem_cons_succ, List.setIfInBounds_toArray, List.set_cons_zero, List.set_cons_succ]
                      refine wpAnyH_ready (rs := [13]) (by kernel_rfl) (by simp) ?_
                      refine AllReadyH.cons rfl (fun K hK => ?_) AllReadyH.nil
                      go_simp
                      refine hK.out _ _ ?_ (fun hHeld => ?_)
                      · exact ⟨(HRP6.out.alloc _).drew.cell 0 _ rfl, (HRP6.out.alloc _).drew.cell 1 _ rfl, (HRP6.out.alloc _).drew.cell 2 _ rfl, (HRP6.out.alloc _).drew.cell 3 _ rfl⟩
                      clear hK K
                      try simp only [Act.put, List.getElem_toArray, List.getElem_cons_zero, List.getElem_cons_succ, List.setIfInBounds_toArray, List.set_cons_zero, List.set_cons_succ]
                      clear hHeld
                      refine wpAnyH_ready (rs := [14]) (by kernel_rfl) (by simp) ?_
                      refine AllReadyH.cons rfl (fun K hK => ?_) AllReadyH.nil
                      go_simp
                      refine hK.out _ _ ?_ (fun hHeld => ?_)
                      · exact ⟨(HRP6.out.alloc _).drew.cell 0 _ rfl, (HRP6.out.alloc _).drew.cell 1 _ rfl, (HRP6.out.alloc _).drew.cell 2 _ rfl, (HRP6.out.alloc _).drew.cell 3 _ rfl⟩
                      clear hK K hHeld
                      try simp only [Act.put, List.getElem_toArray, List.getElem_cons_zero, List.getElem_cons_succ, List.setIfInBounds_toArray, List.set_cons_zero, List.set_cons_succ]
                      refine wpAnyH_done (by kernel_rfl) ?_ _
                      have HRP7 := Lib.hid (HRP6.out.alloc (.cells #[.int .i64 x'.op, .int .i64 x'.a, .int .i64 x'.b, .int .i64 x'.c] 37)).drew
                      have HTQ7 := Lib.hid (HTQ6.out.alloc (.cells #[.int .i64 x'.op, .int .i64 x'.a, .int .i64 x'.b, .int .i64 x'.c] 37)).drew
                      have HTT7 := Lib.hid (HTT6.out.alloc (.cells #[.int .i64 x'.op, .int .i64 x'.a, .int .i64 x'.b, .int .i64 x'.c] 37)).drew
                      have RX0 : Row (w6.alloc (.cells #[.int .i64 x'.op, .int .i64 x'.a, .int .i64 x'.b, .int .i64 x'.c] 37)) w6.heap.size 37 (ic x') := heap_new rfl
                      have RX := RX0.drew
                      clear RX0
                      generalize (w6.alloc (.cells #[.int .i64 x'.op, .int .i64 x'.a, .int .i64 x'.b, .int .i64 x'.c] 37)).drew = w7 at HRP7 HTQ7 HTT7 RX ⊢
                      generalize w6.heap.size = xb at RX ⊢
                      clear HRP6 HTQ6 HTT6
                      (try clear hHeld); (try clear hHeld); (try clear hHeld)
                      clear w6
                      have x0 := RX.cell 0 _ rfl
                      have x1 := RX.cell 1 _ rfl
                      have x2 := RX.cell 2 _ rfl
                      have x3 := RX.cell 3 _ rfl
                      have g0' := (HP.out.later HTT7.out (fun x => x)).cell 0 _ rfl
                      clear RX
                      go_wp2_with fail
                      refine (rwrong_any g N S x' _).mono ?_
                      clear x0 x1 x2 x3 g0'
                      rintro e w8 ⟨rfl, T8⟩
                      have HRP8 := Lib.hid (HRP7.out.later T8 (fun x => x))
                      have HTQ8 := Lib.hid (HTQ7.out.then (T8.mono fun _ x _ => x.elim))
                      have HTT8 := Lib.hid (HTT7.out.then T8)
                      clear T8 HRP7 HTQ7 HTT7
                      clear w7
                      generalize wrongI g N S x' = W at He Ho ⊢
                      by_cases hW : 0 ≤ W ∧ W ≤ q
                      · have hb1 := hW.1
                        have hb2 := hW.2
                        have HS : Hid (decR zs = .error (I + W.toNat)) := Lib.hid (HGe.out _ (by
                          rw [← hsi.out.2, HSj.out]
                          refine instsR_err ?_
                          rw [← hsq.out]
                          exact instR_err h44 (He.out hb1 hb2)))
                        have HTA := Lib.hid (HT.out.then (HTT8.out.mono fun _ x _ => x.elim))
                        have hWn := Lib.hid (show ((I + W.toNat : Nat) : Int) = (I : Int) + W by omega)
                        have d1 : decide (0 ≤ W) = true := by simpa using hb1
                        have d2 : decide (W ≤ (q : Int)) = true := by simpa using hb2
                        clear hW
                        go_wp2_with fail
                        refine (bad_any _ _).mono ?_
                        rintro e wb ⟨rfl, Tb⟩
                        have HTb := Lib.hid (HTA.out.then (Tb.mono fun _ x _ => x.elim))
                        have RB := HR3.out.later HTb.out (by omega)
                        have rb0 := RB.cell 0 _ rfl
                        have rb1 := RB.cell 1 _ rfl
                        have rf0 := RB.free 0
                        have rf1 := RB.free 1
                        have rl := RB.lt
                        have HRB := Lib.hid RB
                        clear Tb RB
                        go_wp2_with fail
                        exact rdec_bad HS.out rfl rfl rfl rfl HRB.out HT3.out HTb.out (fun j h => by omega) (Nat.le_refl _) hWn.out.symm
                      · have HB5 := Lib.hid (Ho.out hW)
                        clear He Ho
                        by_cases hw0 : 0 ≤ W
                        · have d1 : decide (0 ≤ W) = true := by simpa using hw0
                          have d2 : decide (W ≤ (q : Int)) = false := by simp; omega
                          clear hW hw0
                          go_wp2_with fail
                          go_roundw
                          case rel => exact ⟨q + 1, x', by omega, by go_num, by omega, Lib.hid (by rw [← hsq.out]; exact (instR_ok h44 HB5.out).symm), HRP8.out, HTQ8.out⟩
                          case measure => simp [intOf]; omega
                        · have d1 : decide (0 ≤ W) = false := by simpa using hw0
                          clear hW hw0
                          go_wp2_with fail
                          go_roundw
                          case rel => exact ⟨q + 1, x', by omega, by go_num, by omega, Lib.hid (by rw [← hsq.out]; exact (instR_ok h44 HB5.out).symm), HRP8.out, HTQ8.out⟩
                          case measure => simp [intOf]; omega
                  · obtain rfl : q = 4 := by omega
                    have hIx : instR zs I (wrongI g N S) 4 in0 = .ok x := hsq.out.symm
                    have HE := Lib.hid (instsR_ok (g := g) (f := N) (s := S) (k := S - (j + 1)) (acc := l) hIx)
                    clear hIx
                    have p0 := RP.cell 0 _ rfl
                    have p1 := RP.cell 1 _ rfl
                    have p2 := RP.cell 2 _ rfl
                    have p3 := RP.cell 3 _ rfl
                    have V5 := (HV.out.later ((Turns.refl (fun _ => False) wm).alloc (.cells #[.int .i64 0, .int .i64 0, .int .i64 0, .int .i64 0] 3)) (fun _ _ x => x)).later HTQ.out (fun g h e => by have := View.lt HV.out g h; have e : g = wm.heap.size := e; omega)
                    have hne := Lib.hid (show ∀ g, Value.ownBlock u10 = some g → g ≠ wm.heap.size from fun g h => by have := View.lt HV.out g h; omega)
                    have low := Lib.hid (View.low HV.out)
                    clear RP
                    have HV5 := Lib.hid V5
                    clear V5
                    go_wp2_with fail
                    refine wp_region_held_drew (S := (fun w' => w'.cell? ⟨wm.heap.size, 0, none⟩ = some (.int .i64 x.op) ∧ w'.cell? ⟨wm.heap.size, 1, none⟩ = some (.int .i64 x.a) ∧ w'.cell? ⟨wm.heap.size, 2, none⟩ = some (.int .i64 x.b) ∧ w'.cell? ⟨wm.heap.size, 3, none⟩ = some (.int .i64 x.c))) (by kernel_rfl) ?_ (fun hHeld => ?_)
                    · exact ⟨HRP.out.cell 0 _ rfl, HRP.out.cell 1 _ rfl, HRP.out.cell 2 _ rfl, HRP.out.cell 3 _ rfl⟩
                    refine wpAnyH_take (i := 0) (v := ?_) rfl (by kernel_rfl) (by kernel_rfl) (by kernel_rfl) (fun _ _ _ h => h) (Or.inl ⟨by rfl, ?_⟩) (by assumption) ?_
                    rotate_left
                    · (intro w' hSw; (try dsimp only at hSw); first | (go_simp; done) | (go_simp; with_reducible rfl))
                    try simp only [Act.put, List.getElem_toArray, List.getElem_cons_zero, List.getElem_cons_succ, List.setIfInBounds_toArray, List.set_cons_zero, List.set_cons_succ]
                    refine wpAnyH_take (i := 1) (v := ?_) rfl (by kernel_rfl) (by kernel_rfl) (by kernel_rfl) (fun _ _ _ h => h) (Or.inl ⟨by rfl, ?_⟩) (by assumption) ?_
                    rotate_left
                    · (intro w' hSw; (try dsimp only at hSw); first | (go_simp; done) | (go_simp; with_reducible rfl))
                    try simp only [Act.put, List.getElem_toArray, List.getElem_cons_zero, List.getElem_cons_succ, List.setIfInBounds_toArray, List.set_cons_zero, List.set_cons_succ]
                    refine wpAnyH_take (i := 2) (v := ?_) rfl (by kernel_rfl) (by kernel_rfl) (by kernel_rfl) (fun _ _ _ h => h) (Or.inl ⟨by rfl, ?_⟩) (by assumption) ?_
                    rotate_left
                    · (intro w' hSw; (try dsimp only at hSw); first | (go_simp; done) | (go_simp; with_reducible rfl))
                    try simp only [Act.put, List.getElem_toArray, List.getElem_cons_zero, List.getElem_cons_succ, List.setIfInBounds_toArray, List.set_cons_zero, List.set_cons_succ]
                    refine wpAnyH_take (i := 3) (v := ?_) rfl (by kernel_rfl) (by kernel_rfl) (by kernel_rfl) (fun _ _ _ h => h) (Or.inl ⟨by rfl, ?_⟩) (by assumption) ?_
                    rotate_left
                    · (intro w' hSw; (try dsimp only at hSw); first | (go_simp; done) | (go_simp; with_reducible rfl))
                    try simp only [Act.put, List.getElem_toArray, List.getElem_cons_zero, List.getElem_cons_succ, List.setIfInBounds_toArray, List.set_cons_zero, List.set_cons_succ]
                    refine wpAnyH_take (i := 4) (v := ?_) rfl (by kernel_rfl) (by kernel_rfl) (by kernel_rfl) (fun _ _ _ h => h) (Or.inl ⟨by rfl, ?_⟩) (by assumption) ?_
                    rotate_left
                    · (intro w' hSw; (try dsimp only at hSw); first | (go_simp; done) | (go_simp; with_reducible rfl))
                    try simp only [Act.put, List.getElem_toArray, List.getElem_cons_zero, List.getElem_cons_succ, List.setIfInBounds_toArray, List.set_cons_zero, List.set_cons_succ]
                    refine wpAnyH_take (i := 5) (v := ?_) rfl (by kernel_rfl) (by kernel_rfl) (by kernel_rfl) (fun _ _ _ h => h) (Or.inl ⟨by rfl, ?_⟩) (by assumption) ?_
                    rotate_left
                    · (intro w' hSw; (try dsimp only at hSw); first | (go_simp; done) | (go_simp; with_reducible rfl))
                    try simp only [Act.put, List.getElem_toArray, List.getElem_cons_zero, List.getElem_cons_succ, List.setIfInBounds_toArray, List.set_cons_zero, List.set_cons_succ]
                    refine wpAnyH_take (i := 6) (v := ?_) rfl (by kernel_rfl) (by kernel_rfl) (by kernel_rfl) (fun _ _ _ h => h) (Or.inl ⟨by rfl, ?_⟩) (by assumption) ?_
                    rotate_left
                    · (intro w' hSw; (try dsimp only at hSw); first | (go_simp; done) | (go_simp; with_reducible rfl))
                    try simp only [Act.put, List.getElem_toArray, List.getElem_cons_zero, List.getElem_cons_succ, List.setIfInBounds_toArray, List.set_cons_zero, List.set_cons_succ]
                    refine wpAnyH_take (i := 7) (v := ?_) rfl (by kernel_rfl) (by kernel_rfl) (by kernel_rfl) (fun _ _ _ h => h) (Or.inl ⟨by rfl, ?_⟩) (by assumption) ?_
                    rotate_left
                    · (intro w' hSw; (try dsimp only at hSw); first | (go_simp; done) | (go_simp; with_reducible rfl))
                    try simp only [Act.put, List.getElem_toArray, List.getElem_cons_zero, List.getElem_cons_succ, List.setIfInBounds_toArray, List.set_cons_zero, List.set_cons_succ]
                    refine wpAnyH_take (i := 8) (v := ?_) rfl (by kernel_rfl) (by kernel_rfl) (by kernel_rfl) (fun _ _ _ h => h) (Or.inl ⟨by rfl, ?_⟩) (by assumption) ?_
                    rotate_left
                    · (intro w' hSw; (try dsimp only at hSw); first | (go_simp; done) | (go_simp; with_reducible rfl))
                    try simp only [Act.put, List.getElem_toArray, List.getElem_cons_zero, List.getElem_cons_succ, List.setIfInBounds_toArray, List.set_cons_zero, List.set_cons_succ]
                    refine wpAnyH_take (i := 9) (v := ?_) rfl (by kernel_rfl) (by kernel_rfl) (by kernel_rfl) (fun _ _ _ h => h) (Or.inl ⟨by rfl, ?_⟩) (by assumption) ?_
                    rotate_left
                    · (intro w' hSw; (try dsimp only at hSw); first | (go_simp; done) | (go_simp; with_reducible rfl))
                    try simp only [Act.put, List.getElem_toArray, List.getElem_cons_zero, List.getElem_cons_succ, List.setIfInBounds_toArray, List.set_cons_zero, List.set_cons_succ]
                    refine wpAnyH_take (i := 10) (v := ?_) rfl (by kernel_rfl) (by kernel_rfl) (by kernel_rfl) (fun _ _ _ h => h) (Or.inl ⟨by rfl, ?_⟩) (by assumption) ?_
                    rotate_left
                    · (intro w' hSw; (try dsimp only at hSw); first | (go_simp; done) | (go_simp; with_reducible rfl))
                    try simp only [Act.put, List.getElem_toArray, List.getElem_cons_zero, List.getElem_cons_succ, List.setIfInBounds_toArray, List.set_cons_zero, List.set_cons_succ]
                    refine wpAnyH_take (i := 11) (v := ?_) rfl (by kernel_rfl) (by kernel_rfl) (by kernel_rfl) (fun _ _ _ h => h) (Or.inl ⟨by rfl, ?_⟩) (by assumption) ?_
                    rotate_left
                    · (intro w' hSw; (try dsimp only at hSw); first | (go_simp; done) | (go_simp; with_reducible rfl))
                    try simp only [Act.put, List.getElem_toArray, List.getElem_cons_zero, List.getElem_cons_succ, List.setIfInBounds_toArray, List.set_cons_zero, List.set_cons_succ]
                    refine wpAnyH_take (i := 12) (v := ?_) rfl (by kernel_rfl) (by kernel_rfl) (by kernel_rfl) (fun _ _ _ h => h) (Or.inl ⟨by rfl, ?_⟩) (by assumption) ?_
                    rotate_left
                    · (intro w' hSw; (try dsimp only at hSw); first | (go_simp; done) | (go_simp; with_reducible rfl))
                    try simp only [Act.put, List.getElem_toArray, List.getElem_cons_zero, List.getElem_cons_succ, List.setIfInBounds_toArray, List.set_cons_zero, List.set_cons_succ]
                    refine wpAnyH_take (i := 13) (v := ?_) rfl (by kernel_rfl) (by kernel_rfl) (by kernel_rfl) (fun _ _ _ h => h) (Or.inl ⟨by rfl, ?_⟩) (by assumption) ?_
                    rotate_left
                    · (intro w' hSw; (try dsimp only at hSw); first | (go_simp; done) | (go_simp; with_reducible rfl))
                    try simp only [Act.put, List.getElem_toArray, List.getElem_cons_zero, List.getElem_cons_succ, List.setIfInBounds_toArray, List.set_cons_zero, List.set_cons_succ]
                    refine wpAnyH_ready (rs := [14]) (by kernel_rfl) (by simp) ?_
                    refine AllReadyH.cons rfl (fun K hK => ?_) AllReadyH.nil
                    go_simp
                    clear hHeld p0 p1 p2 p3
                    refine hK.out _ _ ?_ (fun hHeld => ?_)
                    · exact ⟨(HRP.out.alloc _).drew.cell 0 _ rfl, (HRP.out.alloc _).drew.cell 1 _ rfl, (HRP.out.alloc _).drew.cell 2 _ rfl, (HRP.out.alloc _).drew.cell 3 _ rfl⟩
                    clear hK K hHeld
                    try simp only [Act.put, List.getElem_toArray, List.getElem_cons_zero, List.getElem_cons_succ, List.setIfInBounds_toArray, List.set_cons_zero, List.set_cons_succ]
                    have X6 : Row (wr.alloc (.cells #[.int .i64 x.op, .int .i64 x.a, .int .i64 x.b, .int .i64 x.c] 37)).drew wr.heap.size 37 (ic x) := Row.drew (heap_new rfl)
                    have V6 := HV5.out.later ((Turns.refl (fun _ => False) wr).alloc (.cells #[.int .i64 x.op, .int .i64 x.a, .int .i64 x.b, .int .i64 x.c] 37)).drew (fun _ _ x => x)
                    have RP6 := (HRP.out.alloc (.cells #[.int .i64 x.op, .int .i64 x.a, .int .i64 x.b, .int .i64 x.c] 37)).drew
                    have TT6 := (HTT.out.alloc (.cells #[.int .i64 x.op, .int .i64 x.a, .int .i64 x.b, .int .i64 x.c] 37)).drew
                    (try clear hHeld); (try clear hHeld); (try clear hHeld)
                    generalize (wr.alloc (.cells #[.int .i64 x.op, .int .i64 x.a, .int .i64 x.b, .int .i64 x.c] 37)).drew = w6 at X6 V6 RP6 TT6 ⊢
                    generalize wr.heap.size = xb at X6 ⊢
                    have hl0 : l.length ≤ 100000 := by have := hsi.out.1; omega
                    refine wpAnyH_ready (rs := [15]) (by kernel_rfl) (by simp) ?_
                    refine AllReadyH.cons rfl (fun K hK => ?_) AllReadyH.nil
                    refine step_append_inst rfl (.tmp 154) (.tmp 168) rfl wo.heap.size _ l xb 1 x rfl rfl V6 X6 hl0 TT6.size ?_
                    intro v7 w7 V7 G7 L7
                    have T7 := G7.turns
                    have RP7 := RP6.later T7 (fun h => hne.out _ h rfl)
                    have TT7 := TT6.trans (E := fun _ => False) T7 (fun j h _ => h) (fun j h h' => by have := low.out _ h; omega)
                    refine hK.out _ _ ?_ (fun hHeld => ?_)
                    · exact ⟨RP7.cell 0 _ rfl, RP7.cell 1 _ rfl, RP7.cell 2 _ rfl, RP7.cell 3 _ rfl⟩
                    clear hK K hHeld X6 V6 RP6 TT6 L7 T7
                    try simp only [Act.put, List.getElem_toArray, List.getElem_cons_zero, List.getElem_cons_succ, List.setIfInBounds_toArray, List.set_cons_zero, List.set_cons_succ]
                    refine wpAnyH_ready (rs := [16]) (by kernel_rfl) (by simp) ?_
                    refine AllReadyH.cons rfl (fun K hK => ?_) AllReadyH.nil
                    go_simp
                    refine hK.out _ _ ?_ (fun hHeld => ?_)
                    · exact ⟨RP7.cell 0 _ rfl, RP7.cell 1 _ rfl, RP7.cell 2 _ rfl, RP7.cell 3 _ rfl⟩
                    clear hK K hHeld RP7 G7
                    try simp only [Act.put, List.getElem_toArray, List.getElem_cons_zero, List.getElem_cons_succ, List.setIfInBounds_toArray, List.set_cons_zero, List.set_cons_succ]
                    refine wpAnyH_done (by kernel_rfl) ?_ _
                    have HV7 := Lib.hid V7
                    have HTT7 := Lib.hid TT7
                    clear V7 TT7
                    go_wp2_with fail
                    go_roundw
                    case rel =>
                      refine ⟨j + 1, l ++ [x], by omega, by go_num, ?_, by have := HI.out; omega, Lib.hid ⟨by rw [List.length_append, hsi.out.1]; rfl, ?_⟩, HV7.out, HTT7.out⟩
                      · have h := HI.out
                        have e : ((i + 1 + 4 * (j + 1) : Nat) : Int) = (I : Int) + 4 := by omega
                        rw [e]
                      · have h := HI.out
                        rw [← hsi.out.2, HSj.out, HE.out, show i + 1 + 4 * (j + 1) = I + 4 from by omega]
                    case measure => simp [intOf]; omega
              · obtain rfl : j = S := by omega
                have P1 := HP.out.later TM (fun x => x)
                have hS : instsR zs g N j j (i + 1) [] = .ok (l, i + 1 + 4 * j) := by rw [← hsi.out.2, Nat.sub_self]; rfl
                have HO := Lib.hid (HGo.out l _ hS)
                obtain ⟨lo, lc, hlv⟩ := View.val V
                subst hlv
                have Lb : w.heap.size + 2 ≤ wo.heap.size := by have := HT.out.size; have := HZ3.out; omega
                have hne : ∀ g, (Value.slice lo l.length lc).ownBlock = some g → ov.ownBlock ≠ some g := fun g h h' => by
                  obtain ⟨us, _, h2, _⟩ := HF.out
                  have a := View.low V g h
                  have b := View.lt h2 g h'
                  omega
                have low : ∀ g, ov.ownBlock = some g → w.heap.size + 2 ≤ g := by
                  obtain ⟨us, _, h2, _⟩ := HF.out
                  exact View.low h2
                have hl0 : l.length ≤ 100000 := by have := hsi.out.1; omega
                have hf0 : fs.length ≤ 100000 := by have := hsp.out.1; omega
                have HX := Lib.hid (heap_new rfl : (wr.alloc (.cells #[.slice lo l.length lc] 38)).heap[wr.heap.size]? = some (.cells #[.slice lo l.length lc] 38))
                have HV9 := Lib.hid ((V.later ((Turns.refl (fun _ => False) wr).alloc (.cells #[.slice lo l.length lc] 38)) (fun _ _ x => x)).base Lb)
                have HF9 := Lib.hid ((HF.out.later TM (fun _ _ _ x => x)).later ((Turns.refl (fun _ => False) wr).alloc (.cells #[.slice lo l.length lc] 38)) (fun _ _ _ x => x))
                have HP9 := Lib.hid (P1.alloc (.cells #[.slice lo l.length lc] 38))
                have HT9 := Lib.hid ((HT.out.then (TM.mono (E := fun x => x = w.heap.size + 1) (fun _ x _ => x.elim))).alloc (.cells #[.slice lo l.length lc] 38))
                have HB9 := Lib.hid (show w.heap.size + 2 ≤ (wr.alloc (.cells #[.slice lo l.length lc] 38)).heap.size by have := TM.size; simp; omega)
                have hne9 := Lib.hid hne
                have low9 := Lib.hid low
                have p1 := P1.cell 1 _ rfl
                clear V TM P1 hne low hS
                go_wp2_with (
                  refine wpList_append_func rfl (.tmp 173) (.tmp 175) rfl (w.heap.size + 2) ov fs wr.heap.size 1 _ l rfl rfl HF9.out HX.out rfl HV9.out hl0 hne9.out hf0 HB9.out ?_
                  intro v8 w8 V8 G8 L8
                  obtain ⟨ao8, n8, c8, e8⟩ : ∃ ao n c, v8 = .slice ao n c := by obtain ⟨us, _, h2, _⟩ := V8; obtain ⟨ao, c, e⟩ := View.val h2; exact ⟨ao, _, c, e⟩
                  subst e8
                  have T8 := G8.turns
                  have P8 := HP9.out.later T8 (fun h => by have := low9.out _ h; omega)
                  have q1 := P8.cell 1 _ rfl
                  have f1 := P8.free 1
                  have l8 := P8.lt
                  have HP8 := Lib.hid (P8.set 1 (.slice ao8 n8 c8))
                  have HV8 := Lib.hid (V8.later ((Turns.refl (fun x => x = w.heap.size + 1) w8).setCell (p := ⟨w.heap.size + 1, 1, none⟩) (Or.inl rfl) (.slice ao8 n8 c8)) (fun g h _ e => by have e : g = w.heap.size + 1 := e; omega))
                  have HT8 := Lib.hid ((HT9.out.trans (E := fun x => x = w.heap.size + 1) T8 (fun j h _ => h) (fun j h h' => by have := low9.out _ h; have := HZ3.out; omega)).setCell (p := ⟨w.heap.size + 1, 1, none⟩) (Or.inl rfl) (.slice ao8 n8 c8))
                  clear V8 G8 L8 T8 P8)
                go_roundw
                case rel =>
                  exact ⟨k + 1, fs ++ [l], _, i + 1 + 4 * j, by omega, by go_num, rfl, hjn, Lib.hid ⟨by rw [List.length_append, hsp.out.1]; rfl, HO.out⟩, HP8.out, HV8.out, HT8.out⟩
                case measure => simp [intOf]; omega
        · obtain rfl : k = N := by omega
          have hS : funcsR zs g k k 2 [] = .ok (fs, i) := by rw [← hsp.out.2, Nat.sub_self]; rfl
          obtain ⟨ao8, n8, c8, e8⟩ : ∃ ao n c, ov = .slice ao n c := by obtain ⟨us, _, h2, _⟩ := F; obtain ⟨ao, c, e⟩ := View.val h2; exact ⟨ao, _, c, e⟩
          subst e8
          have HP1 := Lib.hid P
          have HF := Lib.hid F
          have HT := Lib.hid T
          have HSS := Lib.hid hS
          clear P F T hS
          by_cases hmore : i < n
          · have HS := Lib.hid (decR_more HR0.out HR1'.out HSS.out (by rw [hlen.out]; exact hmore))
            have hd : decide (i < n) = true := by simpa using hmore
            clear hmore
            go_wp2_with fail
            refine (bad_any _ _).mono ?_
            rintro e wb ⟨rfl, Tb⟩
            have HTb := Lib.hid (HT.out.then (Tb.mono fun _ x _ => x.elim))
            have RB := HR3.out.later HTb.out (by omega)
            have rb0 := RB.cell 0 _ rfl
            have rb1 := RB.cell 1 _ rfl
            have rf0 := RB.free 0
            have rf1 := RB.free 1
            have rl := RB.lt
            have HRB := Lib.hid RB
            clear Tb RB
            go_wp2_with fail
            exact rdec_bad HS.out rfl rfl rfl rfl HRB.out HT3.out HTb.out (fun j h => by omega) (Nat.le_refl _) rfl
          · have HE := Lib.hid (decR_ok HR0.out HR1'.out HSS.out (by rw [hlen.out]; exact hmore))
            have hd : decide (i < n) = false := by simpa using hmore
            have RR := HR3.out.later HT.out (by omega)
            have p0 := HP1.out.cell 0 _ rfl
            have p1 := HP1.out.cell 1 _ rfl
            have r0 := RR.cell 0 _ rfl
            have r1 := RR.cell 1 _ rfl
            have rf0 := RR.free 0
            have rf1 := RR.free 1
            have rl := RR.lt
            have HRR := Lib.hid RR
            have hf0 : fs.length ≤ 100000 := by have := hsp.out.1; omega
            clear hmore RR
            go_wp2_with fail
            have TD : Turns (fun x => x = w.heap.size) wr ((wr.setCell ⟨w.heap.size, 0, none⟩ (.int .i64 g)).setCell ⟨w.heap.size, 1, none⟩ (.slice ao8 n8 c8)) :=
              ((Turns.refl (fun x => x = w.heap.size) wr).setCell (p := ⟨w.heap.size, 0, none⟩) (Or.inl rfl) _).setCell (p := ⟨w.heap.size, 1, none⟩) (Or.inl rfl) _
            exact rdec_ok HE.out rfl rfl rfl rfl ((HRR.out.set 0 (.int .i64 g)).set 1 (.slice ao8 n8 c8)) ((HF.out.later TD (fun g h _ e => by have e : g = w.heap.size := e; omega)).reads (by unfold maxLen; omega)) HT3.out (HT.out.trans (E := fun j => w.heap.size ≤ j) TD (fun j h _ => by omega) (fun j h _ => by omega)) (fun j h => h)
end Go.Proofs.Ytedgeoigapilnaa
