/- The walk of PhaseCycles. -/
import Derived.Test.YtilcdoilmdcpbaaUni
namespace Go.Proofs.Ytilcdoilmdcpbaa
open Go.RowKit

/-- Of n bools the first p are true. -/
def upTo (n p : Nat) : List Bool := (List.range n).map fun i => decide (i < p)
theorem upTo_length (n p : Nat) : (upTo n p).length = n := by simp [upTo]
theorem upTo_zero (n : Nat) : upTo n 0 = List.replicate n false := by
  apply List.ext_getElem <;> simp [upTo]
theorem upTo_set (n p : Nat) : (upTo n p).set p true = upTo n (p + 1) := by
  apply List.ext_getElem
  · simp [upTo]
  · intro i h1 h2
    rw [List.getElem_set]
    simp only [upTo, List.getElem_map, List.getElem_range]
    split
    · subst_vars; simp
    · rw [Bool.eq_iff_iff]; simp; omega
theorem upTo_get (n p : Nat) : (upTo n p)[p]?.getD false = false := by
  by_cases h : p < n
  · simp [upTo, h]
  · rw [List.getElem?_eq_none (by simp [upTo]; omega)]; rfl
theorem qt_upTo_no (n p : Nat) (h : p < n) : qt 1 (p : Int) (upTo n p).length = false := by
  rw [upTo_length]; unfold qt; simp; omega

theorem mod_nat (x : Int) (m : Int) (h0 : 0 < m) (h1 : m ≤ 1000) : ∃ n : Nat, 1 ≤ n ∧ (n : Int) ≤ m ∧ wrap64 (1 + wrap64 ((IntKind.u64.wrap x).tmod m)) = (n : Int) := by
  have h0' : 0 ≤ IntKind.u64.wrap x := by rw [IntKind.wrap_u64]; omega
  have e1 : (IntKind.u64.wrap x).tmod m = IntKind.u64.wrap x % m := Int.tmod_eq_emod_of_nonneg h0'
  rw [e1]
  generalize IntKind.u64.wrap x = y
  have l1 : 0 ≤ y % m := Int.emod_nonneg _ (by omega)
  have l2 : y % m < m := Int.emod_lt_of_pos _ (by omega)
  generalize y % m = z at l1 l2 ⊢
  have e2 : wrap64 z = z := by unfold wrap64; omega
  rw [e2]
  refine ⟨(1 + z).toNat, by omega, by omega, ?_⟩
  unfold wrap64
  omega

set_option maxHeartbeats 1000000 in
set_option maxRecDepth 100000 in
theorem cycles_any (ps cycles : Int) (w : World) : Calls Try.prog 5 #[.int .i64 ps, .int .i64 cycles] w fun e w' => e = .returned (.bool true) ∧ Turns (fun _ => False) w w' := by
  obtain ⟨n, hn1, hn2, hn⟩ := mod_nat ps 20 (by omega) (by omega)
  obtain ⟨k, hk1, hk2, hk⟩ := mod_nat cycles 10 (by omega) (by omega)
  have HN := Lib.hid hn
  have HK := Lib.hid hk
  clear hn hk
  go_enter Try.func5, Try.ntmps5
  go_wp2_with fail
  have hn := HN.out
  have hk := HK.out
  rw [hn, hk]
  clear hn hk HN HK
  refine (new_ok n w (by omega) (by omega)).mono ?_
  rintro e w1 ⟨b, g, rfl, H0, hb, hg, T0⟩
  have T : Turns (fun j => w.heap.size ≤ j) w w1 := T0.mono fun _ x _ => x.elim
  clear T0
  go_wp2_with fail
  go_loopw [9] (fun i wr => ∃ (c : Nat) (l : List Bool) (ct rs : Int), 1 ≤ c ∧ c ≤ k + 1 ∧ i = .int .i64 c ∧ l.length = n ∧ PhB wr b g 0 ((c : Int) - 1) l ct rs ∧ Turns (fun j => w.heap.size ≤ j) w wr)
    (fun i _ => 12 - (intOf i).toNat)
  case atStart => exact ⟨1, _, 0, 0, by omega, by omega, rfl, by simp, H0, T⟩
  case round =>
    clear T H0
    obtain ⟨c, l, ct, rs, hc1, hc2, rfl, hl, H, T⟩ := hrel
    by_cases hck : c ≤ k
    · have hck' : (c : Int) ≤ (k : Int) := by omega
      have HL := Lib.hid hl
      clear hl
      go_wp2_with fail
      refine Calls.mono (u_term_no H (by unfold qt; simp)) ?_
      rintro e w2 ⟨rfl, H2, t⟩
      have T2 := T.then (t.mono (E := fun j => w.heap.size ≤ j) fun j hj _ => by rcases hj with rfl | rfl <;> assumption)
      have H3 : PhB w2 b g 0 (c - 1) l ct rs := H2
      clear H T t H2
      have H := H3
      have T := T2
      clear H3 T2
      go_wp2_with fail
      refine Calls.mono (u_sweep_no H (by omega)) ?_
      rintro e w2 ⟨rfl, H2, t⟩
      have T2 := T.then (t.mono (E := fun j => w.heap.size ≤ j) fun j hj _ => by rcases hj with rfl | rfl <;> assumption)
      have H3 : PhB w2 b g 0 (c - 1) l ct rs := H2
      clear H T t H2
      have H := H3
      have T := T2
      clear H3 T2
      go_wp2_with fail
      refine Calls.mono (u_end_no H (by omega)) ?_
      rintro e w2 ⟨rfl, H2, t⟩
      have T2 := T.then (t.mono (E := fun j => w.heap.size ≤ j) fun j hj _ => by rcases hj with rfl | rfl <;> assumption)
      have H3 : PhB w2 b g 0 (c - 1) l ct rs := H2
      clear H T t H2
      have H := H3
      have T := T2
      clear H3 T2
      go_wp2_with fail
      refine Calls.mono (u_say_no 0 true false H (by omega) (by have := H.len; omega) (by omega)) ?_
      rintro e w2 ⟨rfl, H2, t⟩
      have T2 := T.then (t.mono (E := fun j => w.heap.size ≤ j) fun j hj _ => by rcases hj with rfl | rfl <;> assumption)
      have H3 : PhB w2 b g 0 (c - 1) l ct rs := H2
      clear H T t H2
      have H := H3
      have T := T2
      clear H3 T2
      go_wp2_with fail
      refine Calls.mono (u_quiet H false (by unfold qt; simp)) ?_
      rintro e w2 ⟨rfl, H2, t⟩
      have T2 := T.then (t.mono (E := fun j => w.heap.size ≤ j) fun j hj _ => by rcases hj with rfl | rfl <;> assumption)
      have H3 : PhB w2 b g 0 (c - 1) l ct rs := H2
      clear H T t H2
      have H := H3
      have T := T2
      clear H3 T2
      go_wp2_with fail
      refine Calls.mono (u_begin_ok H (by omega)) ?_
      rintro e w2 ⟨rfl, H2, t⟩
      have T2 := T.then (t.mono (E := fun j => w.heap.size ≤ j) fun j hj _ => by rcases hj with rfl | rfl <;> assumption)
      have H3 : PhB w2 b g 1 (c - 1 + 1) (List.replicate l.length false) 0 0 := H2
      clear H T t H2
      have H := H3
      have T := T2
      clear H3 T2
      rw [HL.out, ← upTo_zero, Int.sub_add_cancel] at H
      clear HL
      go_wp2_with fail
      refine Calls.mono (u_begin_no H (by omega)) ?_
      rintro e w2 ⟨rfl, H2, t⟩
      have T2 := T.then (t.mono (E := fun j => w.heap.size ≤ j) fun j hj _ => by rcases hj with rfl | rfl <;> assumption)
      have H3 : PhB w2 b g 1 c (upTo n 0) 0 0 := H2
      clear H T t H2
      have H := H3
      have T := T2
      clear H3 T2
      go_wp2_with fail
      refine Calls.mono (u_cycle H) ?_
      rintro e w2 ⟨rfl, H2, t⟩
      have T2 := T.then (t.mono (E := fun j => w.heap.size ≤ j) fun j hj _ => by rcases hj with rfl | rfl <;> assumption)
      have H3 : PhB w2 b g 1 c (upTo n 0) 0 0 := H2
      clear H T t H2
      have H := H3
      have T := T2
      clear H3 T2
      go_wp2_with fail
      refine Calls.mono (u_restarts H) ?_
      rintro e w2 ⟨rfl, H2, t⟩
      have T2 := T.then (t.mono (E := fun j => w.heap.size ≤ j) fun j hj _ => by rcases hj with rfl | rfl <;> assumption)
      have H3 : PhB w2 b g 1 c (upTo n 0) 0 0 := H2
      clear H T t H2
      have H := H3
      have T := T2
      clear H3 T2
      go_wp2_with fail
      go_loopw [10] (fun i wr => ∃ p : Nat, p ≤ n ∧ i = .int .i64 p ∧ PhB wr b g 1 c (upTo n p) p 0 ∧ Turns (fun j => w.heap.size ≤ j) w wr)
        (fun i _ => n - (intOf i).toNat)
      case atStart => exact ⟨0, by omega, rfl, H, T⟩
      case round =>
        clear H T
        obtain ⟨p, hp, rfl, H, T⟩ := hrel
        by_cases hpn : p < n
        · have hpn' : (p : Int) < (n : Int) := by omega
          go_wp2_with fail
          refine Calls.mono (u_quiet H false (qt_upTo_no n p (by omega)).symm) ?_
          rintro e w2 ⟨rfl, H2, t⟩
          have T2 := T.then (t.mono (E := fun j => w.heap.size ≤ j) fun j hj _ => by rcases hj with rfl | rfl <;> assumption)
          have H3 : PhB w2 b g 1 c (upTo n p) p 0 := H2
          clear H T t H2
          have H := H3
          have T := T2
          clear H3 T2
          go_wp2_with fail
          refine Calls.mono (u_term_no H (qt_upTo_no n p (by omega))) ?_
          rintro e w2 ⟨rfl, H2, t⟩
          have T2 := T.then (t.mono (E := fun j => w.heap.size ≤ j) fun j hj _ => by rcases hj with rfl | rfl <;> assumption)
          have H3 : PhB w2 b g 1 c (upTo n p) p 0 := H2
          clear H T t H2
          have H := H3
          have T := T2
          clear H3 T2
          go_wp2_with fail
          refine Calls.mono (u_say_ok p true false H (by omega) (by rw [upTo_length]; omega) (by omega) (by omega) (upTo n (p + 1)) ((p + 1 : Nat) : Int) 0 (by simp [sayL, upTo_set]) (by simp [sayC, upTo_get]) (by simp [sayR])) ?_
          rintro e w2 ⟨rfl, H2, t⟩
          have T2 := T.then (t.mono (E := fun j => w.heap.size ≤ j) fun j hj _ => by rcases hj with rfl | rfl <;> assumption)
          have H3 : PhB w2 b g 1 c (upTo n (p + 1)) ((p + 1 : Nat) : Int) 0 := H2
          clear H T t H2
          have H := H3
          have T := T2
          clear H3 T2
          have H9 := Lib.hid H
          have T9 := Lib.hid T
          clear H T
          go_wp2_with fail
          go_roundw
          case rel => exact ⟨p + 1, by omega, by go_num, H9.out, T9.out⟩
          case measure => simp [intOf]; omega
        · obtain rfl : p = n := by omega
          go_wp2_with fail
          refine Calls.mono (u_quiet H true (by rw [upTo_length]; unfold qt; simp)) ?_
          rintro e w2 ⟨rfl, H2, t⟩
          have T2 := T.then (t.mono (E := fun j => w.heap.size ≤ j) fun j hj _ => by rcases hj with rfl | rfl <;> assumption)
          have H3 : PhB w2 b g 1 c (upTo p p) p 0 := H2
          clear H T t H2
          have H := H3
          have T := T2
          clear H3 T2
          go_wp2_with fail
          refine Calls.mono (u_say_out p true false H (by rw [upTo_length]; omega)) ?_
          rintro e w2 ⟨rfl, H2, t⟩
          have T2 := T.then (t.mono (E := fun j => w.heap.size ≤ j) fun j hj _ => by rcases hj with rfl | rfl <;> assumption)
          have H3 : PhB w2 b g 1 c (upTo p p) p 0 := H2
          clear H T t H2
          have H := H3
          have T := T2
          clear H3 T2
          go_wp2_with fail
          refine Calls.mono (u_term_ok H (by rw [upTo_length]; unfold qt; simp)) ?_
          rintro e w2 ⟨rfl, H2, t⟩
          have T2 := T.then (t.mono (E := fun j => w.heap.size ≤ j) fun j hj _ => by rcases hj with rfl | rfl <;> assumption)
          have H3 : PhB w2 b g 2 c (upTo p p) p 0 := H2
          clear H T t H2
          have H := H3
          have T := T2
          clear H3 T2
          go_wp2_with fail
          refine Calls.mono (u_quiet H false (by unfold qt; simp)) ?_
          rintro e w2 ⟨rfl, H2, t⟩
          have T2 := T.then (t.mono (E := fun j => w.heap.size ≤ j) fun j hj _ => by rcases hj with rfl | rfl <;> assumption)
          have H3 : PhB w2 b g 2 c (upTo p p) p 0 := H2
          clear H T t H2
          have H := H3
          have T := T2
          clear H3 T2
          go_wp2_with fail
          refine Calls.mono (u_say_no 0 false false H (by omega) (by rw [upTo_length]; omega) (by omega)) ?_
          rintro e w2 ⟨rfl, H2, t⟩
          have T2 := T.then (t.mono (E := fun j => w.heap.size ≤ j) fun j hj _ => by rcases hj with rfl | rfl <;> assumption)
          have H3 : PhB w2 b g 2 c (upTo p p) p 0 := H2
          clear H T t H2
          have H := H3
          have T := T2
          clear H3 T2
          go_wp2_with fail
          refine Calls.mono (u_sweep_ok H) ?_
          rintro e w2 ⟨rfl, H2, t⟩
          have T2 := T.then (t.mono (E := fun j => w.heap.size ≤ j) fun j hj _ => by rcases hj with rfl | rfl <;> assumption)
          have H3 : PhB w2 b g 3 c (upTo p p) p 0 := H2
          clear H T t H2
          have H := H3
          have T := T2
          clear H3 T2
          go_wp2_with fail
          refine Calls.mono (u_phase H) ?_
          rintro e w2 ⟨rfl, H2, t⟩
          have T2 := T.then (t.mono (E := fun j => w.heap.size ≤ j) fun j hj _ => by rcases hj with rfl | rfl <;> assumption)
          have H3 : PhB w2 b g 3 c (upTo p p) p 0 := H2
          clear H T t H2
          have H := H3
          have T := T2
          clear H3 T2
          go_wp2_with fail
          refine Calls.mono (u_end_ok H) ?_
          rintro e w2 ⟨rfl, H2, t⟩
          have T2 := T.then (t.mono (E := fun j => w.heap.size ≤ j) fun j hj _ => by rcases hj with rfl | rfl <;> assumption)
          have H3 : PhB w2 b g 0 c (upTo p p) p 0 := H2
          clear H T t H2
          have H := H3
          have T := T2
          clear H3 T2
          go_wp2_with fail
          refine Calls.mono (u_phase H) ?_
          rintro e w2 ⟨rfl, H2, t⟩
          have T2 := T.then (t.mono (E := fun j => w.heap.size ≤ j) fun j hj _ => by rcases hj with rfl | rfl <;> assumption)
          have H3 : PhB w2 b g 0 c (upTo p p) p 0 := H2
          clear H T t H2
          have H := H3
          have T := T2
          clear H3 T2
          have hl := upTo_length p p
          have HL := Lib.hid hl
          have e : ((c + 1 : Nat) : Int) - 1 = (c : Int) := by omega
          have H9 : Hid (PhB w2 b g 0 (((c + 1 : Nat) : Int) - 1) (upTo p p) p 0) := by show PhB w2 b g 0 (((c + 1 : Nat) : Int) - 1) (upTo p p) p 0; rw [e]; exact H
          have T9 := Lib.hid T
          clear H T hl e
          go_wp2_with fail
          go_roundw
          case rel => exact ⟨c + 1, upTo p p, p, 0, by omega, by omega, by go_num, HL.out, H9.out, T9.out⟩
          case measure => simp [intOf]; omega
    · have hck' : ¬ ((c : Int) ≤ (k : Int)) := by omega
      clear H hl
      go_wp2_with fail
      refine (told_any _).mono ?_
      rintro e w2 ⟨rfl, t⟩
      have T2 := T.then (t.mono (E := fun j => w.heap.size ≤ j) fun j hj _ => hj.elim)
      clear T t
      go_wp2_with fail
      refine (begin_nil _).mono ?_
      rintro e w3 ⟨rfl, rfl⟩
      go_wp2_with fail
      refine (phase_nil _).mono ?_
      rintro e w3 ⟨rfl, rfl⟩
      go_wp2_with fail
      refine (cycle_nil _).mono ?_
      rintro e w3 ⟨rfl, rfl⟩
      go_wp2_with fail
      refine (quiet_nil _).mono ?_
      rintro e w3 ⟨rfl, q, rfl⟩
      have T3 := Lib.hid ((T2.drewN q).mono (E := fun _ => False) fun j hj hj' => (by omega : False))
      clear T2
      go_wp2_with fail
      go_ret
      exact ⟨rfl, T3.out⟩

theorem cycles_walk (a0 : Int) (_w0 : (Lit.int .i64 a0).wf = true) (a1 : Int) (_w1 : (Lit.int .i64 a1).wf = true) (w : World) :
    Calls Try.prog 5 #[.int .i64 a0, .int .i64 a1] w fun e w' => e = .returned (.bool true) ∧ Below w.heap.size w w' :=
  (cycles_any a0 a1 w).mono fun _ _ ⟨he, ht⟩ => ⟨he, ht.toBelow (Nat.le_refl _) fun _ _ x => x⟩
end Go.Proofs.Ytilcdoilmdcpbaa
