/- 'treadmillref1.Ints', the closures of ScanChunks; a slice of integers that reads as a list. -/
import Derived.Test.YtaolbalcedhhbaaTold
import Derived.Laws.AppendOwnNone
namespace Go.Proofs.Ytaolbalcedhhbaa
open Go.RowKit

/-- '.slice a n _' reads as the numbers zs. -/
def IsInts (w : World) (a : Option Addr) (n : Nat) (zs : List Int) : Prop :=
  zs.length = n ∧ (0 < n → ∃ b off, a = some ⟨b, off, none⟩ ∧ b < w.heap.size ∧ ∀ j, j < n → w.cell? ⟨b, off + j, none⟩ = some (.int .i64 (zs.getD j 0)))

theorem IsInts.later {w w' : World} {a : Option Addr} {n : Nat} {zs : List Int} {D : Nat → Prop} (h : IsInts w a n zs) (ht : Turns D w w') (hD : ∀ b off, 0 < n → a = some ⟨b, off, none⟩ → ¬ D b) : IsInts w' a n zs := by
  refine ⟨h.1, fun hn => ?_⟩
  obtain ⟨b, off, rfl, hb, hc⟩ := h.2 hn
  exact ⟨b, off, rfl, Nat.lt_of_lt_of_le hb ht.size, fun j hj => ht.cell (hc j hj) (hD b off hn rfl)⟩

theorem IsInts.of_owns {w : World} {B : Nat} {u : Value} {xs : List Int} (h : w.ownsRow B 3 1 u xs.length (xs.map (Value.int .i64))) :
    ∃ a cap, u = .slice a xs.length cap ∧ IsInts w a xs.length xs := by
  by_cases hp : 0 < xs.length
  · obtain ⟨g, cap, rfl, _, hg, _, hc⟩ := owns_some h hp
    exact ⟨_, cap, rfl, rfl, fun _ => ⟨g, 0, rfl, hg, fun j hj => by rw [Nat.zero_add]; exact hc j hj⟩⟩
  · obtain ⟨a, cap, rfl⟩ := owns_none h
    exact ⟨a, cap, rfl, rfl, fun h => absurd h hp⟩

/-- Two slices that read as one list are the same to Ints. -/
theorem ints_same (a a' : Option Addr) (n cap cap' : Nat) (xs : List Int) (w : World) (hn : n ≤ 1000000) (h : IsInts w a n xs) (h' : IsInts w a' n xs) :
    Calls Try.prog 14 #[.slice a n cap, .slice a' n cap'] w fun e w' => e = .returned (.bool true) ∧ Turns (fun _ => False) w w' := by
  have hnn : ((n : Int) != (n : Int)) = false := by simp
  go_enter Try.func14, Try.ntmps14
  go_wp2_with fail
  go_loopw [5] (fun i wr => ∃ k : Nat, k ≤ n ∧ i = .int .i64 k ∧ Turns (fun _ => False) w wr) (fun i _ => n - (intOf i).toNat)
  case atStart => exact ⟨0, by omega, rfl, Turns.refl _ _⟩
  case round =>
    obtain ⟨k, hk, rfl, ht⟩ := hrel
    by_cases hlt : k < n
    · obtain ⟨b, off, rfl, _, hc⟩ := h.2 (by omega)
      obtain ⟨b', off', rfl, _, hc'⟩ := h'.2 (by omega)
      have c := ht.cell (hc k hlt) (fun x => x)
      have c' := ht.cell (hc' k hlt) (fun x => x)
      obtain ⟨x, hx⟩ : ∃ x, xs.getD k 0 = x := ⟨_, rfl⟩
      rw [hx] at c c'
      clear hc hc' h h' hx
      have hkk : (0 : Int) ≤ (k : Int) := by omega
      go_wp2_with fail
      go_quiet (fail)
      go_wp2_with fail
      go_roundw
      case rel => exact ⟨k + 1, by omega, by go_num, ⟨ht.os, ht.tape, ht.output, ht.size, ht.block⟩⟩
      case measure => simp [intOf]; omega
    · obtain rfl : k = n := by omega
      clear h h'
      go_wp2_with fail
      go_ret
      exact ⟨rfl, ht⟩

/-- Owned numbers. -/
def Own (w : World) (B : Nat) (u : Value) (xs : List Int) : Prop := w.ownsRow B 3 1 u xs.length (xs.map (Value.int .i64))
theorem Own.later {w w' : World} {B : Nat} {u : Value} {xs : List Int} {D : Nat → Prop} (h : Own w B u xs) (t : Turns D w w') (hD : ∀ j, D j → j < B) : Own w' B u xs :=
  t.owns h fun g hg x => by have := World.ownsRow.lt h g hg; have := hD g x; omega
theorem Own.base {w : World} {B B' : Nat} {u : Value} {xs : List Int} (h : Own w B u xs) (hB : B' ≤ B) : Own w B' u xs := ownsRow_base h hB
theorem drewN_turns (w : World) (q : Nat) : Turns (fun _ => False) w (w.drewN q) := ⟨rfl, rfl, rfl, Nat.le_refl _, fun _ _ _ => rfl⟩

/-- 'append(x, y...)', both of one's own. -/
theorem wpList_append_both {w : World} {ops : Array Oper} {rest : List Oper} {o : Oper} {a : Act} {Q : Exit → Act → World → Prop} (hgd : o.guard = none) (s x : Operand)
    (ho : o.op = .call { callee := .builtin .append, args := #[s, x], argTypes := #[22, 22] }) (B B' : Nat) (v u : Value) (xs ys : List Int) (hs : a.eval s = v) (hx : a.eval x = u)
    (hv : Own w B v xs) (hu : Own w B' u ys) (hb : xs.length + ys.length ≤ 1000000) (hB : B ≤ w.heap.size)
    (h : ∀ v' w', Own w' B v' (xs ++ ys) → w.grownBy w' v.ownBlock → wpList Try.prog ops Q rest (a.put o.dst v') w') : wpList Try.prog ops Q (o :: rest) a w := by
  obtain ⟨i0, hi, hz0, hz1, hz2⟩ := info_parts Try.info3
  have hc := @World.ownsRow.cells _ _ _ _ _ _ _ hu
  rcases hu.2 with ⟨rfl, h0⟩ | ⟨g, cap, cur, rfl, hg, hh, _⟩
  · have hy : ys = [] := List.eq_nil_of_length_eq_zero h0
    subst hy
    refine wpList_append_own_none hgd s x 22 ho B 3 i0 1 Try.underlying22 hi v _ _ hs hv hx (h v w ?_ ⟨rfl, rfl, rfl, Nat.le_refl _, fun _ _ _ => rfl⟩)
    simpa using hv
  · refine wpList_append_own _ hgd s x 22 ho B 3 i0 (.int .i64 0) 1 8 Try.underlying22 hi hz0 hz1 hz2 rfl (by decide) v _ _ hs hv ⟨g, 0, none⟩ ys.length cap (ys.map (Value.int .i64)) hx (by simp) (hc (g := g) rfl) (ints_oneCell _ _) (by unfold maxLen; omega) (by omega) hB ?_
    intro v' w' h1 h2 _
    exact h v' w' (by unfold Own; simpa using h1) h2
end Go.Proofs.Ytaolbalcedhhbaa
