/- roots: Add by contract. -/
import Derived.Test.YtpbpnoohbfchgaaNext
namespace Go.Proofs.Ytpbpnoohbfchgaa
open Go.RowKit

theorem clo_any (j : J) (q : Addr) (g : Int) (w : World) (hq : w.cell? q = some (.int .i64 g)) (hb : q.block < w.heap.size) :
    Calls Try.prog 14 #[.agg #[.int .i64 j.g, .int .i64 j.f, .int .i64 j.t], .pointer (some q)] w fun e w' => e = .returned (.bool (j.g == g)) ∧ Turns (fun _ => False) w w' := by
  go_enter Try.func14, Try.ntmps14
  go_wp2
  go_ret
  exact ⟨rfl, (Turns.refl _ _).alloc _⟩

/-- Somebody of these jobs is g's. -/
def hasG (js : List J) (g : Int) : Bool := js.any fun j => j.g == g

set_option maxHeartbeats 1000000 in
theorem idx_any {w : World} {B : Nat} {v : Value} {js : List J} (h : JV w B v js) (q : Addr) (g : Int) (hq : w.cell? q = some (.int .i64 g)) (hb : q.block < w.heap.size) (hl : js.length ≤ 100000) :
    Calls Try.prog 15 #[v, .func (Fn.func 14) #[] #[.pointer (some q)]] w fun e w' => (∃ i : Int, e = .returned (.int .i64 i) ∧ decide (0 ≤ i) = hasG js g) ∧ Turns (fun _ => False) w w' := by
  obtain ⟨ao, cap, hv⟩ := View.val h
  subst hv
  go_enter Try.func15, Try.ntmps15
  go_wp2_with fail
  go_loopw [8] (fun f wr => ∃ (k : Nat), k ≤ js.length ∧ f = .int .i64 (k : Int) ∧ Hid (∀ i, i < k → (js.getD i default).g ≠ g) ∧ Turns (fun _ => False) w wr)
    (fun f _ => js.length - (intOf f).toNat)
  case atStart => exact ⟨0, by omega, rfl, Lib.hid (fun i hi => by omega), Turns.refl _ _⟩
  case round =>
    obtain ⟨k, hk, rfl, hno, T⟩ := hrel
    by_cases hlt : k < js.length
    · obtain ⟨g', o, cap', hv, hg', hgs, hcap, hmx, hown, hcell⟩ := (h.later T (fun _ _ x => x)).cells (by omega)
      simp only [Value.slice.injEq] at hv
      obtain ⟨rfl, _, rfl⟩ := hv
      obtain ⟨e0, e1, e2⟩ := flat_at js k hlt
      have x0 := hcell _ _ e0
      have x1 : wr.cell? ⟨g', o + k * 3 + 1, none⟩ = _ := hcell _ _ e1
      have x2 : wr.cell? ⟨g', o + k * 3 + 2, none⟩ = _ := hcell _ _ e2
      have C := clo_any (js.getD k default) q g wr (T.cell hq (fun x => x)) (Nat.lt_of_lt_of_le hb T.size)
      have hin : k < js.length → (js.getD k default) ∈ js := fun hk => by
        rw [List.getD_eq_getElem?_getD, List.getElem?_eq_getElem hk]; exact List.getElem_mem hk
      have hin := hin hlt
      clear e0 e1 e2 hcell hown
      have hno' : (js.getD k default).g ≠ g → Hid (∀ i, i < k + 1 → (js.getD i default).g ≠ g) := fun hne => Lib.hid fun i hi => by
        by_cases h : i = k
        · subst h; exact hne
        · exact hno.out i (by omega)
      have HN := Lib.hid hno'
      clear hno' hno
      generalize js.getD k default = jj at x0 x1 x2 C HN hin
      have HI := Lib.hid hin
      have HT := Lib.hid T
      clear hin T
      go_wp2_with fail
      refine C.mono ?_
      rintro e w3 ⟨rfl, T3⟩
      by_cases hh : jj.g = g
      · have hh' : (jj.g == g) = true := by simp [hh]
        rw [hh']
        have hans : hasG js g = true := by
          simp only [hasG, List.any_eq_true]; exact ⟨jj, HI.out, hh'⟩
        have HA := Lib.hid hans
        have HT3 := Lib.hid (HT.out.then T3)
        clear hans T3
        go_wp2_with fail
        go_ret
        exact ⟨⟨_, rfl, by rw [HA.out]; simp⟩, HT3.out⟩
      · have hh' : (jj.g == g) = false := by simp [hh]
        rw [hh']
        have HT3 := Lib.hid (HT.out.then T3)
        clear T3
        go_wp2_with fail
        go_roundw
        case rel => exact ⟨k + 1, by omega, by go_num, HN.out hh, HT3.out⟩
        case measure => simp [intOf]; omega
    · have hke : js.length = k := by omega
      have hans : hasG js g = false := by
        simp only [hasG, List.any_eq_false]
        intro x hx
        obtain ⟨i, hi, rfl⟩ := List.mem_iff_getElem.1 hx
        have := hno.out i (by omega)
        rw [List.getD_eq_getElem?_getD, List.getElem?_eq_getElem hi] at this
        simpa using this
      have HA := Lib.hid hans
      have HT := Lib.hid T
      clear hans T hno
      go_wp2_with fail
      go_ret
      exact ⟨⟨_, rfl, by rw [HA.out]; simp⟩, HT.out⟩

theorem has_any {w : World} {B : Nat} {v : Value} {js : List J} (h : JV w B v js) (q : Addr) (g : Int) (hq : w.cell? q = some (.int .i64 g)) (hb : q.block < w.heap.size) (hl : js.length ≤ 100000) :
    Calls Try.prog 13 #[v, .func (Fn.func 14) #[] #[.pointer (some q)]] w fun e w' => e = .returned (.bool (hasG js g)) ∧ Turns (fun _ => False) w w' := by
  have C := idx_any h q g hq hb hl
  clear h hq
  go_enter Try.func13, Try.ntmps13
  go_wp2_with fail
  refine C.mono ?_
  rintro e w3 ⟨⟨i, rfl, hi⟩, T⟩
  have HI := Lib.hid hi
  clear hi
  go_wp2_with fail
  go_ret
  exact ⟨by rw [HI.out]; rfl, T⟩

theorem add_nil (g : Int) (w : World) : Calls Try.prog 11 #[.pointer none, .int .i64 g] w fun e w' => e = .returned (.tuple #[]) ∧ Turns (fun _ => False) w w' := by
  go_enter Try.func11, Try.ntmps11
  go_wp2_with fail
  go_end0
  exact ⟨rfl, (Turns.refl _ _).alloc _⟩

theorem add_in {w : World} {B b : Nat} {v : Value} {js : List J} (h : RB w B b v js) (g : Int) (hb : b < w.heap.size) (hl : js.length ≤ 100000) (hin : hasG js g = true) :
    Calls Try.prog 11 #[.pointer (some ⟨b, 0, none⟩), .int .i64 g] w fun e w' => e = .returned (.tuple #[]) ∧ Turns (fun _ => False) w w' := by
  have c0 := h.row.cell 0 _ rfl
  have TA := (Turns.refl (fun _ => False) w).alloc (.cells #[.int .i64 g] 3)
  have C := has_any (h.later TA (fun x => x) (fun _ _ x => x)).jobs ⟨w.heap.size, 0, none⟩ g (by simp) (by simp) hl
  rw [hin] at C
  go_enter Try.func11, Try.ntmps11
  go_wp2_with fail
  refine C.mono ?_
  rintro e w3 ⟨rfl, T⟩
  have T := TA.then T
  go_wp2_with fail
  go_end0
  exact ⟨rfl, T⟩

set_option maxHeartbeats 1000000 in
set_option maxRecDepth 100000 in
theorem add_new {w : World} {B b : Nat} {v : Value} {js : List J} (h : RB w B b v js) (g : Int) (hb : b < w.heap.size) (hB : B ≤ w.heap.size) (hl : js.length ≤ 100000) (hin : hasG js g = false) :
    Calls Try.prog 11 #[.pointer (some ⟨b, 0, none⟩), .int .i64 g] w fun e w' => e = .returned (.tuple #[]) ∧ (∃ v', RB w' B b v' (js ++ [st g]) ∧ Lies w v v') ∧ Turns (fun x => x = b ∨ v.ownBlock = some x) w w' := by
  have c0 := h.row.cell 0 _ rfl
  have TA := (Turns.refl (fun _ => False) w).alloc (.cells #[.int .i64 g] 3)
  have RA := h.later TA (fun x => x) (fun _ _ x => x)
  have C := has_any RA.jobs ⟨w.heap.size, 0, none⟩ g (by simp) (by simp) hl
  rw [hin] at C
  have aA : (w.alloc (.cells #[.int .i64 g] 3)).cell? ⟨w.heap.size, 0, none⟩ = some (.int .i64 g) := by simp
  have HA := Lib.hid aA
  have HTA := Lib.hid TA
  have HRA := Lib.hid RA
  have HC0 := Lib.hid (TA.cell c0 (fun x => x))
  have nA : (w.alloc (.cells #[.int .i64 g] 3)).heap.size = w.heap.size + 1 := by simp
  have HNA := Lib.hid nA
  clear nA aA TA RA h
  go_enter Try.func11, Try.ntmps11
  go_wp2_with fail
  clear c0
  refine C.mono ?_
  clear C
  rintro e w2 ⟨rfl, T⟩
  have TD := T.drew
  have zD : w.heap.size + 1 ≤ w2.drew.heap.size := by rw [← HNA.out]; exact T.size
  have cD : w2.drew.cell? ⟨b, 0, none⟩ = some v := TD.cell HC0.out (fun x => x)
  have gD : w2.drew.cell? ⟨w.heap.size, 0, none⟩ = some (.int .i64 g) := TD.cell HA.out (fun x => x)
  have HRD := Lib.hid (HRA.out.later TD (fun x => x) (fun _ _ x => x))
  have HTD := Lib.hid (HTA.out.then TD)
  clear T TD HC0 HA HRA HTA HNA
  go_wp2_with fail
  go_region_law (first
    | (refine step_append_job rfl (.tmp 19) (.tmp 22) rfl B v _ _ 1 (st g) rfl rfl (HRD.out.later (TS.alloc _) (fun x => x) (fun _ _ x => x)).jobs (by simp [Addr.add, st]) (by simp [Addr.add, st]) (by simp [Addr.add, st]) hl (by simp; omega) ?_
       intro v' w4 hv' hg hw
       have A := (HRD.out.later (TS.alloc _) (fun x => x) (fun _ _ x => x)).appended (by simp; omega) hv' hg hw
       obtain ⟨A1, A2, A3, A4⟩ := A
       obtain ⟨ao, cap', hval⟩ : ∃ ao cap', v' = .slice ao (js.length + 1) cap' := by
         have := View.val hv'
         rw [List.length_append] at this
         exact this
       subst hval
       have H1 := Lib.hid A1
       have H2 := Lib.hid A2
       have H5 : Lies w v (.slice ao (js.length + 1) cap') := fun x hx => (hw x hx).imp id (fun h => Nat.le_trans (Nat.le_trans (Nat.le_trans (Nat.le_succ _) zD) (TS.alloc _).size) h)
       clear A1 A2 hv' hg hw)
    | (go_simp
       go_at_call 12
       refine (stack_any _ _).mono ?_
       rintro e w3 ⟨rfl, TS⟩
       have cS := TS.cell cD (fun x => x)
       have cA := fun (o : Obj) => ((Turns.refl (fun _ => False) w3).alloc o).cell cS (fun x => x)
       have nS := TS.size))
  all_goals
    have hlow := HRD.out.low
    have T3 := ((HTD.out.then (TS.alloc _)).trans H2.out (E := fun x => x = b ∨ v.ownBlock = some x) (fun _ x _ => x.elim) (fun j x hj => x))
    have HT3 := Lib.hid T3
    clear T3 hlow HRD HTD cD gD A3 A4 cS cA nS TS
    go_wp2
    go_end0
    exact ⟨rfl, ⟨_, H1.out, H5⟩, HT3.out⟩
end Go.Proofs.Ytpbpnoohbfchgaa
