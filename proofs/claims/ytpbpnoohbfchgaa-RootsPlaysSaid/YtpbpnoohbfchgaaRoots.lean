/- roots: jobs as a list; Left, stack, New by contracts. -/
import Derived.Test.YtpbpnoohbfchgaaView
import Derived.StillTailTactics
import Derived.BigQuiet
import Derived.Deep.QuietTactic
import Derived.Deep.RegionWith
import Derived.Deep.RegionLaw
namespace Go.Proofs.Ytpbpnoohbfchgaa
open Go.RowKit

structure J where
  g : Int
  f : Int
  t : Int
instance : Inhabited J := ⟨⟨0, 0, 0⟩⟩

def jc (j : J) : List Value := [.int .i64 j.g, .int .i64 j.f, .int .i64 j.t]
def flat (js : List J) : List Value := js.flatMap jc
theorem flat_length (js : List J) : (flat js).length = js.length * 3 := by
  induction js with
  | nil => rfl
  | cons j r ih => simp only [flat, List.flatMap_cons, List.length_append, List.length_cons] at ih ⊢; rw [ih]; simp [jc]; omega
theorem flat_append (a b : List J) : flat (a ++ b) = flat a ++ flat b := by simp [flat]
theorem flat_one (js : List J) : ∀ u ∈ flat js, u.oneCell' = true := by
  intro u hu
  obtain ⟨j, _, hj⟩ := List.mem_flatMap.1 hu
  simp [jc] at hj
  rcases hj with rfl | rfl | rfl <;> rfl
theorem flat_at (js : List J) (j : Nat) (h : j < js.length) : (flat js)[j * 3]? = some (.int .i64 (js.getD j default).g) ∧ (flat js)[j * 3 + 1]? = some (.int .i64 (js.getD j default).f) ∧ (flat js)[j * 3 + 2]? = some (.int .i64 (js.getD j default).t) := by
  induction js generalizing j with
  | nil => simp at h
  | cons x r ih =>
    cases j with
    | zero => simp [flat, jc]
    | succ j =>
      have := ih j (by simpa using h)
      simp only [List.getD_cons_succ]
      have e : flat (x :: r) = [Value.int .i64 x.g, .int .i64 x.f, .int .i64 x.t] ++ flat r := rfl
      rw [e]
      rw [List.getElem?_append_right (by simp; omega), List.getElem?_append_right (by simp; omega), List.getElem?_append_right (by simp; omega)]
      simp only [List.length_cons, List.length_nil]
      rw [show (j + 1) * 3 - (0 + 1 + 1 + 1) = j * 3 from by omega, show (j + 1) * 3 + 1 - (0 + 1 + 1 + 1) = j * 3 + 1 from by omega, show (j + 1) * 3 + 2 - (0 + 1 + 1 + 1) = j * 3 + 2 from by omega]
      exact this

/-- A slice of jobs of the call's own. -/
def JV (w : World) (B : Nat) (v : Value) (js : List J) : Prop := View w B 28 3 v js.length (flat js)
theorem JV.later {w w' : World} {D : Nat → Prop} {B : Nat} {v : Value} {js : List J} (h : JV w B v js) (t : Turns D w w') (hD : ∀ g, v.ownBlock = some g → ¬ D g) : JV w' B v js := View.later h t hD

theorem Try.info28 : (Try.prog.info? 28).map (fun i => (i.zero, i.size, i.bytes)) = some (some (.agg #[.int .i64 0, .int .i64 0, .int .i64 0]), 3, 24) := by kernel_rfl

/-- 'append(xs, job)': the job in a new block. -/
theorem wpList_append_job {w : World} {ops : Array Oper} {rest : List Oper} {o : Oper} {a : Act} {Q : Exit → Act → World → Prop} (hgd : o.guard = none) (s y : Operand)
    (ho : o.op = .call { callee := .builtin .append, args := #[s, y], argTypes := #[34, 34] }) (B : Nat) (v : Value) (js : List J) (ad : Addr) (c : Nat) (j : J)
    (hsv : a.eval s = v) (hyv : a.eval y = .slice (some ad) 1 c) (hv : JV w B v js) (h0 : w.cell? (ad.add 0) = some (.int .i64 j.g)) (h1 : w.cell? (ad.add 1) = some (.int .i64 j.f)) (h2 : w.cell? (ad.add 2) = some (.int .i64 j.t))
    (hb : js.length ≤ 100000) (hB : B ≤ w.heap.size)
    (h : ∀ v' w', JV w' B v' (js ++ [j]) → Grew w w' v B → Lies w v v' →
      wpList Try.prog ops Q rest (a.put o.dst v') w') : wpList Try.prog ops Q (o :: rest) a w := by
  obtain ⟨i, hi, hz0, hz1, hz2⟩ := info_parts Try.info28
  refine wpList_append_view hgd s y 34 28 3 24 _ i ho Try.underlying34 hi hz0 hz1 hz2 rfl B v _ js.length 1 (flat js) (jc j) hsv hyv hv ?_ (by unfold maxLen; omega) (by omega) hB ?_
  · refine Src.ofSlice w Try.underlying34 ad 1 c (jc j) rfl (fun k u hu => ?_) (fun u hu => flat_one [j] u (by simpa [flat] using hu))
    match k, hu with
    | 0, hu => simp [jc] at hu; subst hu; exact h0
    | 1, hu => simp [jc] at hu; subst hu; exact h1
    | 2, hu => simp [jc] at hu; subst hu; exact h2
    | k + 3, hu => simp [jc] at hu
  · intro v' w' hv' hg hw
    refine h v' w' ?_ hg hw
    unfold JV
    rw [flat_append, List.length_append]
    exact hv'

/-- The same as a step of a region that draws. -/
theorem step_append_job {w : World} {ops : Array Oper} {o : Oper} {a : Act} {K : Act → World → Prop} {Q : Exit → Act → World → Prop} {E : Prop} (hgd : o.guard = none) (s y : Operand)
    (ho : o.op = .call { callee := .builtin .append, args := #[s, y], argTypes := #[34, 34] }) (B : Nat) (v : Value) (js : List J) (ad : Addr) (c : Nat) (j : J)
    (hsv : a.eval s = v) (hyv : a.eval y = .slice (some ad) 1 c) (hv : JV w B v js) (h0 : w.cell? (ad.add 0) = some (.int .i64 j.g)) (h1 : w.cell? (ad.add 1) = some (.int .i64 j.f)) (h2 : w.cell? (ad.add 2) = some (.int .i64 j.t))
    (hb : js.length ≤ 100000) (hB : B ≤ w.heap.size)
    (h : ∀ v' w', JV w' B v' (js ++ [j]) → Grew w w' v B → Lies w v v' → K (a.put o.dst v') w') :
    if Region.wanted o (yielded ops a.tmps) = true then Oper.wp Try.prog o a w K Q else E := by
  have hw : Region.wanted o (yielded ops a.tmps) = true := by simp [Region.wanted, hgd]
  rw [if_pos hw]
  obtain ⟨i, hi, hz0, hz1, hz2⟩ := info_parts Try.info28
  have hs : Src Try.prog 3 34 (.slice (some ad) 1 c) 1 (jc j) w := by
    refine Src.ofSlice w Try.underlying34 ad 1 c (jc j) rfl (fun k u hu => ?_) (fun u hu => flat_one [j] u (by simpa [flat] using hu))
    match k, hu with
    | 0, hu => simp [jc] at hu; subst hu; exact h0
    | 1, hu => simp [jc] at hu; subst hu; exact h1
    | 2, hu => simp [jc] at hu; subst hu; exact h2
    | k + 3, hu => simp [jc] at hu
  obtain ⟨v', w', hr, g2, g3, g4⟩ := run_append_view (w := w) 34 o.type 28 3 24 _ i Try.underlying34 hi hz0 hz1 hz2 rfl B v _ js.length 1 (flat js) (jc j) hv hs (by unfold maxLen; omega) (by omega) hB
  unfold Oper.wp
  simp [execOp, ho, resolve, invoke, builtin, hsv, hyv, hr, Result.andThen]
  refine h v' w' ?_ g3 g4
  unfold JV
  rw [flat_append, List.length_append]
  exact g2

theorem left_nil (w : World) : Calls Try.prog 7 #[.pointer none] w fun e w' => e = .returned (.int .i64 0) ∧ w = w' := by
  go_enter Try.func7, Try.ntmps7
  go_wp2
  go_ret
  exact ⟨rfl, rfl⟩

/-- Block b is a Roots; its jobs. -/
structure RB (w : World) (B b : Nat) (v : Value) (js : List J) : Prop where
  row : Row w b 41 [v]
  jobs : JV w B v js
  ne : v.ownBlock ≠ some b

theorem RB.later {w w' : World} {D : Nat → Prop} {B b : Nat} {v : Value} {js : List J} (h : RB w B b v js) (t : Turns D w w') (hb : ¬ D b) (hD : ∀ g, v.ownBlock = some g → ¬ D g) : RB w' B b v js :=
  ⟨h.row.later t hb, h.jobs.later t hD, h.ne⟩

theorem RB.low {w : World} {B b : Nat} {v : Value} {js : List J} (h : RB w B b v js) : ∀ g, v.ownBlock = some g → B ≤ g := View.low h.jobs

theorem left_any {w : World} {B b : Nat} {v : Value} {js : List J} (h : RB w B b v js) : Calls Try.prog 7 #[.pointer (some ⟨b, 0, none⟩)] w fun e w' => e = .returned (.int .i64 (js.length : Int)) ∧ w = w' := by
  obtain ⟨ao, cap, hv⟩ := View.val h.jobs
  subst hv
  have c0 := h.row.cell 0 _ rfl
  clear h
  go_enter Try.func7, Try.ntmps7
  go_wp2
  go_ret
  exact ⟨rfl, rfl⟩

theorem stack_any (g : Int) (w : World) : Calls Try.prog 12 #[.int .i64 g] w fun e w' => e = .returned (.agg #[.int .i64 g, .int .i64 0, .int .i64 16]) ∧ Turns (fun _ => False) w w' := by
  go_enter Try.func12, Try.ntmps12
  go_wp2
  exact bodyPost_ret (v := .agg #[.int .i64 g, .int .i64 0, .int .i64 16]) (by simp [results, Try.results12, go_sem]) rfl ⟨rfl, (Turns.refl _ _).alloc _⟩

/-- Behind an append and the store of what it yields. -/
theorem RB.appended {w1 w2 : World} {B b : Nat} {v v' : Value} {js : List J} {j : J} (h : RB w1 B b v js) (hbw : b < w1.heap.size)
    (hv' : JV w2 B v' (js ++ [j])) (hg : Grew w1 w2 v B) (hw : Lies w1 v v') :
    RB (w2.setCell ⟨b, 0, none⟩ v') B b v' (js ++ [j]) ∧ Turns (fun x => x = b ∨ v.ownBlock = some x) w1 (w2.setCell ⟨b, 0, none⟩ v') ∧ w2.cell? ⟨b, 0, none⟩ = some v ∧ w2.frozen? ⟨b, 0, none⟩ = false := by
  have T := hg.turns
  have R2 := h.row.later T h.ne
  have hne : v'.ownBlock ≠ some b := fun e => by
    rcases hw b e with x | x
    · exact h.ne x
    · omega
  refine ⟨⟨R2.set 0 v', hv'.later (Turns.setCell (D := fun j => j = b) (Turns.refl _ w2) (p := ⟨b, 0, none⟩) (Or.inl rfl) v') (fun _ hg hgb => hne (hgb ▸ hg)), hne⟩, ?_, R2.cell 0 _ rfl, R2.free 0⟩
  exact (T.mono (E := fun x => x = b ∨ v.ownBlock = some x) fun _ x _ => Or.inr x).setCell (p := ⟨b, 0, none⟩) (Or.inl (Or.inl rfl)) v'

/-- The jobs of the globals, the first k; how many there are. -/
def gj (G : Int) (k : Nat) : List J := (List.range k).map fun (i : Nat) => (⟨-1, 8 * (i : Int), min (8 * (i : Int) + 8) G⟩ : J)
def gn (G : Int) : Nat := ((G + 7) / 8).toNat
def st (g : Int) : J := ⟨g, 0, 16⟩
theorem gj_succ (G : Int) (k : Nat) : gj G (k + 1) = gj G k ++ [⟨-1, 8 * (k : Int), min (8 * (k : Int) + 8) G⟩] := by simp [gj, List.range_succ]
theorem gj_length (G : Int) (k : Nat) : (gj G k).length = k := by simp [gj]
theorem gn_lt (G : Int) (k : Nat) : (8 * (k : Int) < G) ↔ k < gn G := by unfold gn; omega
def jobs (G : Int) (gs : List Int) : List J := gj G (gn G) ++ gs.map st

/-- '.slice a n _' reads as the numbers zs. -/
def IsInts (w : World) (a : Option Addr) (n : Nat) (zs : List Int) : Prop :=
  zs.length = n ∧ (0 < n → ∃ b off, a = some ⟨b, off, none⟩ ∧ b < w.heap.size ∧ ∀ j, j < n → w.cell? ⟨b, off + j, none⟩ = some (.int .i64 (zs.getD j 0)))

theorem IsInts.later {w w' : World} {a : Option Addr} {n : Nat} {zs : List Int} (h : IsInts w a n zs) (t : Turns (fun _ => False) w w') : IsInts w' a n zs := by
  refine ⟨h.1, fun hp => ?_⟩
  obtain ⟨b, off, ha, hb, hc⟩ := h.2 hp
  exact ⟨b, off, ha, Nat.lt_of_lt_of_le hb t.size, fun j hj => t.cell (hc j hj) (fun x => x)⟩

set_option maxHeartbeats 1000000 in
set_option maxRecDepth 100000 in
theorem new_any (G : Int) (a : Option Addr) (n cap : Nat) (gs : List Int) (w : World) (hG : G ≤ 1000) (hn : n ≤ 1000) (hi : IsInts w a n gs) :
    Calls Try.prog 6 #[.int .i64 G, .slice a n cap] w fun e w' => e = .returned (.pointer (some ⟨w.heap.size, 0, none⟩)) ∧ (∃ v, RB w' (w.heap.size + 1) w.heap.size v (jobs G gs)) ∧ Turns (fun _ => False) w w' := by
  obtain ⟨w1, hw1⟩ : ∃ w1, w.alloc (.cells #[.slice none 0 0] 41) = w1 := ⟨_, rfl⟩
  have R1 : RB w1 (w.heap.size + 1) w.heap.size (.slice none 0 0) (gj G 0) := by
    subst hw1; exact ⟨heap_new rfl, View.zero _ _ _ _, by simp [Value.ownBlock]⟩
  have T1 : Turns (fun _ => False) w w1 := by subst hw1; exact (Turns.refl _ _).alloc _
  have z1 : w.heap.size < w1.heap.size := by subst hw1; simp
  have HW1 := Lib.hid hw1
  clear hw1
  go_enter Try.func6, Try.ntmps6
  go_wp2_with fail
  rw [HW1.out]
  clear HW1
  go_loopw [6] (fun f wr => ∃ (k : Nat) (v : Value), k ≤ gn G ∧ f = .int .i64 (8 * (k : Int)) ∧ RB wr (w.heap.size + 1) w.heap.size v (gj G k) ∧ Turns (fun _ => False) w wr ∧ w.heap.size < wr.heap.size)
    (fun f _ => gn G - (intOf f).toNat / 8)
  case atStart => exact ⟨0, _, by omega, rfl, R1, T1, z1⟩
  case round =>
    clear R1 T1 z1
    obtain ⟨k, v, hk, rfl, R, T, hz⟩ := hrel
    have hkk := gn_lt G k
    have hgn : gn G ≤ 126 := by unfold gn; omega
    by_cases hlt : k < gn G
    · have hlt' : 8 * (k : Int) < G := hkk.2 hlt
      have hlen := gj_length G k
      have c0 := R.row.cell 0 _ rfl
      have HK := Lib.hid hlen
      clear hkk hlen
      by_cases hm : 8 * (k : Int) + 8 ≤ G
      · have hmin : min (8 * (k : Int) + 8) G = 8 * (k : Int) + 8 := by omega
        have hnew := gj_succ G k
        rw [hmin] at hnew
        have HN := Lib.hid hnew
        have ha := (Turns.refl (fun _ => False) wr).alloc (.cells #[.int .i64 (-1), .int .i64 (8 * (k : Int)), .int .i64 (8 * (k : Int) + 8)] 28)
        have R2 := R.later ha (fun x => x) (fun _ _ x => x)
        have T2 := T.then ha
        clear hmin hnew T
        go_wp2_with (at_builtin; refine wpList_append_job rfl (.tmp 19) (.tmp 26) rfl (w.heap.size + 1) v (gj G k) ⟨wr.heap.size, 0, none⟩ 1 ⟨-1, 8 * (k : Int), 8 * (k : Int) + 8⟩ rfl rfl R2.jobs (by simp [Addr.add]) (by simp [Addr.add]) (by simp [Addr.add]) ?b1 ?b2 ?_)
        case b1 => rw [HK.out]; omega
        case b2 => first | omega | (simp; omega)
        intro v' w2 hv' hg hw
        have A := R2.appended (by simp; omega) hv' hg hw
        rw [← HN.out] at A
        obtain ⟨A1, A2, A3, A4⟩ := A
        have T3 := (T2.trans A2 (E := fun _ => False) (fun _ x _ => x) (fun j x hj => by rcases x with x | x; omega; have := (R2.low j x); omega))
        have z3 : w.heap.size < (w2.setCell ⟨w.heap.size, 0, none⟩ v').heap.size := Nat.lt_of_lt_of_le (by simp; omega) A2.size
        have H1 := Lib.hid A1
        have H3 := Lib.hid T3
        have H4 := Lib.hid z3
        obtain ⟨ao, cap', hval⟩ : ∃ ao cap', v' = .slice ao ((gj G k).length + 1) cap' := by simpa using View.val hv'
        subst hval
        clear hv' hg hw A1 A2 T3 z3 R2 R T2 ha HN
        go_wp2
        go_roundw
        case rel => exact ⟨k + 1, _, by omega, by go_num, H1.out, H3.out, H4.out⟩
        case measure => simp [intOf]; omega
      · have hmin : min (8 * (k : Int) + 8) G = G := by omega
        have hnew := gj_succ G k
        rw [hmin] at hnew
        have HN := Lib.hid hnew
        have ha := (Turns.refl (fun _ => False) wr).alloc (.cells #[.int .i64 (-1), .int .i64 (8 * (k : Int)), .int .i64 G] 28)
        have R2 := R.later ha (fun x => x) (fun _ _ x => x)
        have T2 := T.then ha
        clear hmin hnew T
        go_wp2_with (at_builtin; refine wpList_append_job rfl (.tmp 19) (.tmp 26) rfl (w.heap.size + 1) v (gj G k) ⟨wr.heap.size, 0, none⟩ 1 ⟨-1, 8 * (k : Int), G⟩ rfl rfl R2.jobs (by simp [Addr.add]) (by simp [Addr.add]) (by simp [Addr.add]) ?b1 ?b2 ?_)
        case b1 => rw [HK.out]; omega
        case b2 => first | omega | (simp; omega)
        intro v' w2 hv' hg hw
        have A := R2.appended (by simp; omega) hv' hg hw
        rw [← HN.out] at A
        obtain ⟨A1, A2, A3, A4⟩ := A
        have T3 := (T2.trans A2 (E := fun _ => False) (fun _ x _ => x) (fun j x hj => by rcases x with x | x; omega; have := (R2.low j x); omega))
        have z3 : w.heap.size < (w2.setCell ⟨w.heap.size, 0, none⟩ v').heap.size := Nat.lt_of_lt_of_le (by simp; omega) A2.size
        have H1 := Lib.hid A1
        have H3 := Lib.hid T3
        have H4 := Lib.hid z3
        obtain ⟨ao, cap', hval⟩ : ∃ ao cap', v' = .slice ao ((gj G k).length + 1) cap' := by simpa using View.val hv'
        subst hval
        clear hv' hg hw A1 A2 T3 z3 R2 R T2 ha HN
        go_wp2
        go_roundw
        case rel => exact ⟨k + 1, _, by omega, by go_num, H1.out, H3.out, H4.out⟩
        case measure => simp [intOf]; omega
    · have hke : k = gn G := by omega
      subst hke
      have hge : ¬ 8 * (gn G : Int) < G := fun h => hlt (hkk.1 h)
      clear hkk hlt
      have HR := Lib.hid R
      have HT := Lib.hid T
      have HZ := Lib.hid hz
      clear R T hz
      go_wp2
      go_loopw [32] (fun f wr2 => ∃ (k : Nat) (v2 : Value), k ≤ n ∧ f = .int .i64 (k : Int) ∧ RB wr2 (w.heap.size + 1) w.heap.size v2 (gj G (gn G) ++ (gs.map st).take k) ∧ Turns (fun _ => False) w wr2 ∧ w.heap.size < wr2.heap.size)
        (fun f _ => n - (intOf f).toNat)
      case atStart => exact ⟨0, _, by omega, rfl, by simpa using HR.out, HT.out, HZ.out⟩
      case round =>
        clear HR HT HZ
        obtain ⟨k, v2, hk2, rfl, R, T, hz⟩ := hrel
        by_cases hlt : k < n
        · have c0 := R.row.cell 0 _ rfl
          have I := hi.later T
          obtain ⟨gb, goff, rfl, hgb, hgc⟩ := I.2 (by omega)
          have hgc := hgc k hlt
          have hlen : (gj G (gn G) ++ (gs.map st).take k).length = gn G + k := by simp [gj_length, hi.1]; omega
          have htk : (gs.map st).take (k + 1) = (gs.map st).take k ++ [st (gs.getD k 0)] := by
            rw [List.take_add_one]; simp [hi.1, hlt, List.getD_eq_getElem?_getD]
          have HL := Lib.hid hlen
          have HK := Lib.hid htk
          clear htk hlen
          generalize gs.getD k 0 = g at hgc HK
          have RD := R.later ((Turns.refl (fun _ => False) wr).drew) (fun x => x) (fun _ _ x => x)
          have TD := T.drew
          have zD : w.heap.size < wr.drew.heap.size := hz
          have cD : wr.drew.cell? ⟨w.heap.size, 0, none⟩ = some v2 := c0
          have gD : wr.drew.cell? ⟨gb, goff + k, none⟩ = some (.int .i64 g) := hgc
          have HRD := Lib.hid RD
          have HTD := Lib.hid TD
          have HZD := Lib.hid zD
          clear R T hz I hgb c0 hgc RD TD
          go_wp2
          go_region_law (first
            | (go_simp
               go_at_call 12
               refine (stack_any _ _).mono ?_
               rintro e w3 ⟨rfl, TS⟩
               have cS := TS.cell cD (fun x => x)
               have cA := fun (o : Obj) => ((Turns.refl (fun _ => False) w3).alloc o).cell cS (fun x => x)
               have nS := TS.size)
            | (refine step_append_job rfl (.tmp 39) (.tmp 45) rfl (w.heap.size + 1) v2 _ _ 1 (st g) rfl rfl (HRD.out.later (TS.alloc _) (fun x => x) (fun _ _ x => x)).jobs (by simp [Addr.add, st]) (by simp [Addr.add, st]) (by simp [Addr.add, st]) (by rw [HL.out]; omega) (by simp; omega) ?_
               intro v' w2 hv' hg hw
               have A := (HRD.out.later (TS.alloc _) (fun x => x) (fun _ _ x => x)).appended (by simp; omega) hv' hg hw
               obtain ⟨A1, A2, A3, A4⟩ := A
               obtain ⟨ao, cap', hval⟩ : ∃ ao cap', v' = .slice ao (gn G + k + 1) cap' := by
                 have := View.val hv'
                 rw [List.length_append, HL.out] at this
                 exact this
               subst hval
               have H1 := Lib.hid A1
               have H2 := Lib.hid A2
               clear A1 A2 hv' hg hw))
          all_goals
            have hlow := HRD.out.low
            have T3 := ((HTD.out.then (TS.alloc _)).trans H2.out (E := fun _ => False) (fun _ x _ => x) (fun j x hj => by rcases x with x | x; omega; have := (hlow j x); omega))
            have z3 := Nat.lt_of_lt_of_le (Nat.lt_of_lt_of_le zD (TS.alloc _).size) H2.out.size
            rw [List.append_assoc, ← HK.out] at H1
            have H3 := Lib.hid T3
            have H4 := Lib.hid z3
            clear T3 z3 hlow HRD HTD HL HK cD gD A3 A4 cS cA nS TS
            go_wp2
            go_roundw
            case rel => exact ⟨k + 1, _, by omega, by go_num, H1.out, H3.out, H4.out⟩
            case measure => simp [intOf]; omega
        · have hke : n = k := by omega
          subst hke
          have ht : (gs.map st).take n = gs.map st := List.take_of_length_le (by simp [hi.1])
          rw [ht] at R
          have HR := Lib.hid R
          have HT := Lib.hid T
          clear R T hlt
          go_wp2
          go_ret
          exact ⟨rfl, ⟨_, HR.out⟩, HT.out⟩
end Go.Proofs.Ytpbpnoohbfchgaa
