/- 'told' of the layer 20's statements. -/
import Derived.Test.YtaolbalcedhhbaaScan
namespace Go.Proofs.Ytaolbalcedhhbaa
open Go.RowKit

/-- An owned row of numbers that is not empty, taken apart. -/
theorem owns_some {w : World} {B : Nat} {u : Value} {xs : List Int} (h : w.ownsRow B 3 1 u xs.length (xs.map (Value.int .i64))) (hp : 0 < xs.length) :
    ∃ g cap, u = .slice (some ⟨g, 0, none⟩) xs.length cap ∧ B ≤ g ∧ g < w.heap.size ∧ u.ownBlock = some g ∧ ∀ j, j < xs.length → w.cell? ⟨g, j, none⟩ = some (.int .i64 (xs.getD j 0)) := by
  have hc := @World.ownsRow.cells _ _ _ _ _ _ _ h
  rcases h.2 with ⟨_, h0⟩ | ⟨g, cap, cur, rfl, hg, hh, _⟩
  · omega
  · refine ⟨g, cap, rfl, hg, lt_of_block hh, rfl, fun j hj => ?_⟩
    have := hc (g := g) rfl j (.int .i64 (xs.getD j 0)) (by simp [hj])
    rw [Addr.add_lit, Nat.zero_add] at this
    exact this
theorem owns_none {w : World} {B : Nat} {u : Value} {n : Nat} {xs : List Value} (h : w.ownsRow B 3 1 u n xs) :
    ∃ a cap, u = .slice a n cap := by
  rcases h.2 with ⟨rfl, rfl⟩ | ⟨g, cap, cur, rfl, _⟩
  · exact ⟨_, _, rfl⟩
  · exact ⟨_, _, rfl⟩

theorem told1_any (a k : Int) (w : World) (h0 : 0 ≤ a) (h1 : a ≤ 1000) (h2 : 0 ≤ k) (h3 : k ≤ 1000) :
    Calls Try.prog 19 #[.int .i64 a, .int .i64 k] w fun e w' => e = .returned (.int .i64 (a + k)) ∧ w = w' := by
  go_enter Try.func19, Try.ntmps19
  go_wp2
  go_ret
  exact ⟨rfl, rfl⟩

theorem told_step (b at_ m : Nat) (w : World) (h : Sc w b 64 20 at_) (hm : m = min (at_ + 16) 20) (hat : at_ ≤ 20) :
    Calls Try.prog 10 #[.pointer (some ⟨b, 0, none⟩), .func (.func 19) #[] #[]] w fun e w' => ∃ u, e = .returned u ∧
      w'.ownsRow w.heap.size 3 1 u (nz (fun i => 64 + ((at_ + i : Nat) : Int)) (m - at_)).length ((nz (fun i => 64 + ((at_ + i : Nat) : Int)) (m - at_)).map (Value.int .i64)) ∧
      Sc w' b 64 20 m ∧ Turns (fun j => j = b) w w' := by
  refine (step_any 19 #[] (fun _ => False) (fun _ _ => True) 64 (fun k => 64 + (k : Int)) b 20 at_ m w (enters Try.func19 (by kernel_rfl) rfl) h hm hat (by omega) (fun _ x => x.elim) ?_ (fun _ _ _ _ _ => trivial) trivial).mono ?_
  · intro k W h1 h2 _ _
    refine (told1_any 64 k W (by omega) (by omega) (by omega) (by omega)).mono ?_
    rintro e w' ⟨rfl, rfl⟩
    exact ⟨rfl, trivial, Turns.refl _ _⟩
  · rintro e w' ⟨u, rfl, ho, _, hs, ht⟩
    exact ⟨u, rfl, ho, hs, ht.mono fun j hj _ => hj.elim id (fun x => x.elim)⟩

set_option maxRecDepth 100000 in
theorem told_any (w : World) : Calls Try.prog 6 #[] w fun e w' => e = .returned (.bool true) ∧ Turns (fun _ => False) w w' := by
  go_enter Try.func6, Try.ntmps6
  go_wp2_with fail
  refine (new_any 64 20 w (by omega)).mono ?_
  rintro e w1 ⟨rfl, hw1⟩
  have h1 : Sc w1 w.heap.size 64 20 (0 : Nat) := by subst hw1; exact heap_new rfl
  have t1 : Turns (fun _ => False) w w1 := by subst hw1; exact (Turns.refl _ _).alloc _
  have s1 : w.heap.size < w1.heap.size := by subst hw1; simp
  clear hw1
  go_wp2_with fail
  refine (told_step w.heap.size 0 16 w1 h1 rfl (by omega)).mono ?_
  rintro e w2 ⟨u, rfl, ho, h2, t2⟩
  obtain ⟨g, cap, rfl, hg, hg', hgb, hc⟩ := owns_some ho (by decide)
  have c0 : w2.cell? ⟨g, 0, none⟩ = some (.int .i64 64) := hc 0 (by decide)
  have e16 : (nz (fun i => 64 + ((0 + i : Nat) : Int)) (16 - 0)).length = 16 := by decide
  rw [e16]
  clear ho hc hgb e16
  have s2 := t2.size
  go_wp2_with fail
  refine (left_any w.heap.size 64 20 (16 : Nat) w2 h2 (by omega) (by omega) (by omega)).mono ?_
  rintro e w3 ⟨rfl, q, hq⟩
  have h3 : Sc w3 w.heap.size 64 20 (16 : Nat) := by subst hq; exact h2
  have t3 : Turns (fun j => j = w.heap.size) w1 w3 := by subst hq; exact ⟨t2.os, t2.tape, t2.output, t2.size, t2.block⟩
  have c3 : w3.cell? ⟨g, 0, none⟩ = some (.int .i64 64) := by subst hq; exact c0
  have g3 : g < w3.heap.size := by subst hq; exact hg'
  clear hq c0 hg' t2 h2 s2
  go_wp2_with fail
  refine (told_step w.heap.size 16 20 w3 h3 rfl (by omega)).mono ?_
  rintro e w4 ⟨u, rfl, ho, h4, t4⟩
  obtain ⟨g', cap', rfl, hg4, hg4', hgb, hc⟩ := owns_some ho (by decide)
  have c3' : w4.cell? ⟨g', 3, none⟩ = some (.int .i64 83) := hc 3 (by decide)
  have e4 : (nz (fun i => 64 + ((16 + i : Nat) : Int)) (20 - 16)).length = 4 := by decide
  rw [e4]
  have c0' : w4.cell? ⟨g, 0, none⟩ = some (.int .i64 64) := t4.cell c3 (by simp; omega)
  have t4' : Turns (fun _ => False) w w4 := (t1.trans t3 (fun _ x _ => x) (fun _ x hj => (by omega : False))).trans t4 (fun _ x _ => x) (fun _ x hj => (by omega : False))
  clear ho hc hgb e4 t4 t3 c3 t1
  go_wp2_with fail
  refine (done_any w.heap.size 64 20 (20 : Nat) w4 h4 (by omega) (by omega) (by omega)).mono ?_
  rintro e w5 ⟨rfl, q, hq⟩
  have h5 : Sc w5 w.heap.size 64 20 (20 : Nat) := by subst hq; exact h4
  have t5 : Turns (fun _ => False) w w5 := by subst hq; exact ⟨t4'.os, t4'.tape, t4'.output, t4'.size, t4'.block⟩
  have e20 : ((20 : Int) - ((20 : Nat) : Int) == 0) = true := by decide
  rw [e20]
  clear hq h4 t4' e20
  go_wp2_with fail
  refine (told_step w.heap.size 20 20 w5 h5 rfl (by omega)).mono ?_
  rintro e w6 ⟨u, rfl, ho, h6, t6⟩
  obtain ⟨a, cap, rfl⟩ := owns_none ho
  have e0 : (nz (fun i => 64 + ((20 + i : Nat) : Int)) (20 - 20)).length = 0 := by decide
  rw [e0]
  have T := Lib.hid (t5.trans t6 (E := fun _ => False) (fun _ x _ => x) (fun _ x hj => (by omega : False)))
  clear ho e0 t6 t5 h6
  go_wp2_with fail
  go_ret
  exact ⟨rfl, T.out⟩
end Go.Proofs.Ytaolbalcedhhbaa
