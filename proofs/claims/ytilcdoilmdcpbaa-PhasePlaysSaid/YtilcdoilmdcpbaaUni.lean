/- The contracts in one form: what is answered, the state behind the call, which blocks may have turned. -/
import Derived.Test.YtilcdoilmdcpbaaPhase2
namespace Go.Proofs.Ytilcdoilmdcpbaa
open Go.RowKit

/-- A call of a method leaves the phases in a state. -/
def Uni (f : Nat) (args : Array Value) (w : World) (v : Value) (b g : Nat) (ph cy : Int) (l : List Bool) (ct rs : Int) : Prop :=
  Calls Try.prog f args w fun e w' => e = .returned v ∧ PhB w' b g ph cy l ct rs ∧ Turns (DB b g) w w'

section
variable {w : World} {b g : Nat} {ph cy ct rs : Int} {l : List Bool}
theorem uni_same {f : Nat} {args : Array Value} {v : Value} (h : PhB w b g ph cy l ct rs) (c : Calls Try.prog f args w fun e w' => e = .returned v ∧ w = w') : Uni f args w v b g ph cy l ct rs :=
  c.mono fun _ _ ⟨he, hw⟩ => by subst hw; exact ⟨he, h, Turns.refl _ _⟩
theorem uni_drew {f : Nat} {args : Array Value} {v : Value} (h : PhB w b g ph cy l ct rs) (c : Calls Try.prog f args w fun e w' => e = .returned v ∧ ∃ q, w' = w.drewN q) : Uni f args w v b g ph cy l ct rs :=
  c.mono fun _ _ ⟨he, q, hw⟩ => by subst hw; exact ⟨he, h.drewN q, (Turns.refl _ _).drewN q⟩

theorem u_quiet (h : PhB w b g ph cy l ct rs) (r : Bool) (hr : r = qt ph ct l.length) : Uni 10 #[.pointer (some ⟨b, 0, none⟩)] w (.bool r) b g ph cy l ct rs := by subst hr; exact uni_drew h (quiet_any h)
theorem u_phase (h : PhB w b g ph cy l ct rs) : Uni 13 #[.pointer (some ⟨b, 0, none⟩)] w (.int .i64 ph) b g ph cy l ct rs := uni_same h (phase_any h)
theorem u_cycle (h : PhB w b g ph cy l ct rs) : Uni 18 #[.pointer (some ⟨b, 0, none⟩)] w (.int .i64 cy) b g ph cy l ct rs := uni_same h (cycle_any h)
theorem u_restarts (h : PhB w b g ph cy l ct rs) : Uni 11 #[.pointer (some ⟨b, 0, none⟩)] w (.int .i64 rs) b g ph cy l ct rs := uni_same h (restarts_any h)
theorem u_term_no (h : PhB w b g ph cy l ct rs) (hq : qt ph ct l.length = false) : Uni 12 #[.pointer (some ⟨b, 0, none⟩)] w (.int .i64 5) b g ph cy l ct rs := uni_drew h (term_no h hq)
theorem u_term_ok (h : PhB w b g ph cy l ct rs) (hq : qt ph ct l.length = true) : Uni 12 #[.pointer (some ⟨b, 0, none⟩)] w (.int .i64 0) b g 2 cy l ct rs := term_ok h hq
theorem u_sweep_no (h : PhB w b g ph cy l ct rs) (hne : ph ≠ 2) : Uni 16 #[.pointer (some ⟨b, 0, none⟩)] w (.int .i64 5) b g ph cy l ct rs := uni_same h (sweep_no h hne)
theorem u_sweep_ok (h : PhB w b g 2 cy l ct rs) : Uni 16 #[.pointer (some ⟨b, 0, none⟩)] w (.int .i64 0) b g 3 cy l ct rs := sweep_ok h
theorem u_end_no (h : PhB w b g ph cy l ct rs) (hne : ph ≠ 3) : Uni 14 #[.pointer (some ⟨b, 0, none⟩)] w (.int .i64 5) b g ph cy l ct rs := uni_same h (end_no h hne)
theorem u_end_ok (h : PhB w b g 3 cy l ct rs) : Uni 14 #[.pointer (some ⟨b, 0, none⟩)] w (.int .i64 0) b g 0 cy l ct rs := end_ok h
theorem u_begin_no (h : PhB w b g ph cy l ct rs) (hne : ph ≠ 0) : Uni 7 #[.pointer (some ⟨b, 0, none⟩)] w (.int .i64 5) b g ph cy l ct rs := uni_same h (begin_no h hne)
theorem u_begin_ok (h : PhB w b g 0 cy l ct rs) (hcy : 0 ≤ cy ∧ cy ≤ 100000) : Uni 7 #[.pointer (some ⟨b, 0, none⟩)] w (.int .i64 0) b g 1 (cy + 1) (List.replicate l.length false) 0 0 := begin_ok h hcy
theorem u_say_out (p : Int) (e f : Bool) (h : PhB w b g ph cy l ct rs) (hp : p < 0 ∨ (l.length : Int) ≤ p) : Uni 9 #[.pointer (some ⟨b, 0, none⟩), .int .i64 p, .bool e, .bool f] w (.int .i64 1) b g ph cy l ct rs := uni_same h (say_out p e f h hp)
theorem u_say_no (p : Int) (e f : Bool) (h : PhB w b g ph cy l ct rs) (h0 : 0 ≤ p) (hp : p < (l.length : Int)) (hph : ph ≠ 1) : Uni 9 #[.pointer (some ⟨b, 0, none⟩), .int .i64 p, .bool e, .bool f] w (.int .i64 5) b g ph cy l ct rs := by
  obtain ⟨n, rfl⟩ : ∃ n : Nat, p = n := ⟨p.toNat, by omega⟩
  exact uni_same h (say_no n e f h (by omega) hph)
theorem u_say_ok (p : Int) (e f : Bool) (h : PhB w b g 1 cy l ct rs) (h0 : 0 ≤ p) (hp : p < (l.length : Int)) (hc : 0 ≤ ct ∧ ct ≤ 100000) (hr : 0 ≤ rs ∧ rs ≤ 100000) (L : List Bool) (C R : Int)
    (hL : sayL l p.toNat e f = L) (hC : sayC l ct p.toNat e f = C) (hR : sayR ct rs e f = R) : Uni 9 #[.pointer (some ⟨b, 0, none⟩), .int .i64 p, .bool e, .bool f] w (.int .i64 0) b g 1 cy L C R := by
  subst hL hC hR
  obtain ⟨n, rfl⟩ : ∃ n : Nat, p = n := ⟨p.toNat, by omega⟩
  exact say_ok n e f h (by omega) hc hr
end

set_option maxRecDepth 100000 in
theorem told_any (w : World) : Calls Try.prog 8 #[] w fun e w' => e = .returned (.bool true) ∧ Turns (fun _ => False) w w' := by
  go_enter Try.func8, Try.ntmps8
  go_wp2_with fail
  refine (new_ok 2 w (by omega) (by omega)).mono ?_
  rintro e w1 ⟨b, g, rfl, H0, hb, hg, T0⟩
  have H : PhB w1 b g 0 0 [false, false] 0 0 := H0
  have T : Turns (fun j => w.heap.size ≤ j) w w1 := T0.mono fun _ x _ => x.elim
  clear H0 T0
  go_wp2_with fail
  refine (new_bad 65 w1 (by omega)).mono ?_
  rintro e w2 ⟨rfl, rfl⟩
  go_wp2_with fail
  refine Calls.mono (u_term_no H (by decide)) ?_
  rintro e w2 ⟨rfl, H2, t⟩
  have T2 := T.then (t.mono (E := fun j => w.heap.size ≤ j) fun j hj _ => by rcases hj with rfl | rfl <;> assumption)
  have H3 : PhB w2 b g 0 0 [false, false] 0 0 := H2
  clear H T t H2
  have H := H3
  have T := T2
  clear H3 T2
  go_wp2_with fail
  refine Calls.mono (u_begin_ok H (by omega)) ?_
  rintro e w2 ⟨rfl, H2, t⟩
  have T2 := T.then (t.mono (E := fun j => w.heap.size ≤ j) fun j hj _ => by rcases hj with rfl | rfl <;> assumption)
  have H3 : PhB w2 b g 1 1 [false, false] 0 0 := H2
  clear H T t H2
  have H := H3
  have T := T2
  clear H3 T2
  go_wp2_with fail
  refine Calls.mono (u_say_ok 0 true false H (by omega) (by decide) (by omega) (by omega) [true, false] 1 0 (by decide) (by decide) (by decide)) ?_
  rintro e w2 ⟨rfl, H2, t⟩
  have T2 := T.then (t.mono (E := fun j => w.heap.size ≤ j) fun j hj _ => by rcases hj with rfl | rfl <;> assumption)
  have H3 : PhB w2 b g 1 1 [true, false] 1 0 := H2
  clear H T t H2
  have H := H3
  have T := T2
  clear H3 T2
  go_wp2_with fail
  refine Calls.mono (u_say_ok 1 true true H (by omega) (by decide) (by omega) (by omega) [false, false] 0 1 (by decide) (by decide) (by decide)) ?_
  rintro e w2 ⟨rfl, H2, t⟩
  have T2 := T.then (t.mono (E := fun j => w.heap.size ≤ j) fun j hj _ => by rcases hj with rfl | rfl <;> assumption)
  have H3 : PhB w2 b g 1 1 [false, false] 0 1 := H2
  clear H T t H2
  have H := H3
  have T := T2
  clear H3 T2
  go_wp2_with fail
  refine Calls.mono (u_say_ok 1 true false H (by omega) (by decide) (by omega) (by omega) [false, true] 1 1 (by decide) (by decide) (by decide)) ?_
  rintro e w2 ⟨rfl, H2, t⟩
  have T2 := T.then (t.mono (E := fun j => w.heap.size ≤ j) fun j hj _ => by rcases hj with rfl | rfl <;> assumption)
  have H3 : PhB w2 b g 1 1 [false, true] 1 1 := H2
  clear H T t H2
  have H := H3
  have T := T2
  clear H3 T2
  go_wp2_with fail
  refine Calls.mono (u_quiet H false (by decide)) ?_
  rintro e w2 ⟨rfl, H2, t⟩
  have T2 := T.then (t.mono (E := fun j => w.heap.size ≤ j) fun j hj _ => by rcases hj with rfl | rfl <;> assumption)
  have H3 : PhB w2 b g 1 1 [false, true] 1 1 := H2
  clear H T t H2
  have H := H3
  have T := T2
  clear H3 T2
  go_wp2_with fail
  refine Calls.mono (u_say_ok 0 true false H (by omega) (by decide) (by omega) (by omega) [true, true] 2 1 (by decide) (by decide) (by decide)) ?_
  rintro e w2 ⟨rfl, H2, t⟩
  have T2 := T.then (t.mono (E := fun j => w.heap.size ≤ j) fun j hj _ => by rcases hj with rfl | rfl <;> assumption)
  have H3 : PhB w2 b g 1 1 [true, true] 2 1 := H2
  clear H T t H2
  have H := H3
  have T := T2
  clear H3 T2
  go_wp2_with fail
  refine Calls.mono (u_quiet H true (by decide)) ?_
  rintro e w2 ⟨rfl, H2, t⟩
  have T2 := T.then (t.mono (E := fun j => w.heap.size ≤ j) fun j hj _ => by rcases hj with rfl | rfl <;> assumption)
  have H3 : PhB w2 b g 1 1 [true, true] 2 1 := H2
  clear H T t H2
  have H := H3
  have T := T2
  clear H3 T2
  go_wp2_with fail
  refine Calls.mono (u_restarts H) ?_
  rintro e w2 ⟨rfl, H2, t⟩
  have T2 := T.then (t.mono (E := fun j => w.heap.size ≤ j) fun j hj _ => by rcases hj with rfl | rfl <;> assumption)
  have H3 : PhB w2 b g 1 1 [true, true] 2 1 := H2
  clear H T t H2
  have H := H3
  have T := T2
  clear H3 T2
  go_wp2_with fail
  refine Calls.mono (u_term_ok H (by decide)) ?_
  rintro e w2 ⟨rfl, H2, t⟩
  have T2 := T.then (t.mono (E := fun j => w.heap.size ≤ j) fun j hj _ => by rcases hj with rfl | rfl <;> assumption)
  have H3 : PhB w2 b g 2 1 [true, true] 2 1 := H2
  clear H T t H2
  have H := H3
  have T := T2
  clear H3 T2
  go_wp2_with fail
  refine Calls.mono (u_phase H) ?_
  rintro e w2 ⟨rfl, H2, t⟩
  have T2 := T.then (t.mono (E := fun j => w.heap.size ≤ j) fun j hj _ => by rcases hj with rfl | rfl <;> assumption)
  have H3 : PhB w2 b g 2 1 [true, true] 2 1 := H2
  clear H T t H2
  have H := H3
  have T := T2
  clear H3 T2
  go_wp2_with fail
  refine Calls.mono (u_cycle H) ?_
  rintro e w2 ⟨rfl, H2, t⟩
  have T2 := T.then (t.mono (E := fun j => w.heap.size ≤ j) fun j hj _ => by rcases hj with rfl | rfl <;> assumption)
  have H3 : PhB w2 b g 2 1 [true, true] 2 1 := H2
  clear H T t H2
  have H := H3
  have T := T2
  clear H3 T2
  have TF := Lib.hid (T.mono (E := fun _ => False) fun j hj hj' => (by omega : False))
  clear T H
  go_wp2_with fail
  go_ret
  exact ⟨rfl, TF.out⟩
end Go.Proofs.Ytilcdoilmdcpbaa
