/- 'append(x, y...)', both of one's own: the value behind it lies where x lay, or in a new block. -/
import Derived.Test.YtaolbalcedhhbaaInts
namespace Go.Proofs.Ytaolbalcedhhbaa
open Go.RowKit

theorem run_append_where {w : World} (ty : TypeId) (B : Nat) (v : Value) (xs ys : List Int) (ad : Addr) (c : Nat)
    (hv : Own w B v xs) (hnews : ∀ j u, (ys.map (Value.int .i64))[j]? = some u → w.cell? (ad.add j) = some u) (hb : xs.length + ys.length ≤ 1000000) (hB : B ≤ w.heap.size) :
    ∃ v' w', (Builtin.append_ #[22, 22] ty #[v, .slice (some ad) ys.length c]).run Try.prog w = .ok v' w' ∧ Own w' B v' (xs ++ ys) ∧ w.grownBy w' v.ownBlock ∧
      (∀ g, v'.ownBlock = some g → v.ownBlock = some g ∨ w.heap.size ≤ g) := by
  obtain ⟨i, hi, hz0, hz1, hz2⟩ := info_parts Try.info3
  have gen : ∀ B', w.ownsRow B' 3 1 v xs.length (xs.map (Value.int .i64)) → B' ≤ w.heap.size → ∃ v' w', (Builtin.append_ #[22, 22] ty #[v, .slice (some ad) ys.length c]).run Try.prog w = .ok v' w' ∧ Own w' B' v' (xs ++ ys) ∧ w.grownBy w' v.ownBlock := by
    intro B' h hB'
    obtain ⟨v', w', h1, h2, h3, _⟩ := run_append_own (P := Try.prog) w B' 22 ty 3 i (.int .i64 0) 1 8 Try.underlying22 hi hz0 hz1 hz2 rfl (by decide) v _ _ h ad ys.length c (ys.map (Value.int .i64)) (by simp) hnews (ints_oneCell _ _) (by unfold maxLen; omega) (by omega) hB'
    exact ⟨v', w', h1, by unfold Own; simpa using h2, h3⟩
  obtain ⟨v', w', h1, h2, h3⟩ := gen B hv hB
  refine ⟨v', w', h1, h2, h3, fun g hg => ?_⟩
  rcases hv.2 with ⟨hn, h0⟩ | ⟨g0, cap, cur, hvv, hg0, hh, hc, hcm, hcs, _⟩
  · have hn' : w.ownsRow w.heap.size 3 1 v xs.length (xs.map (Value.int .i64)) := ⟨hv.1, .inl ⟨hn, h0⟩⟩
    obtain ⟨v2, w2, e1, e2, _⟩ := gen w.heap.size hn' (Nat.le_refl _)
    rw [h1] at e1
    injection e1 with ev ew
    subst ev
    exact Or.inr (World.ownsRow.lt e2 g hg).1
  · by_cases hroom : xs.length + ys.length ≤ cap
    · have hr := run_append_room (P := Try.prog) w 22 ty 3 i Try.underlying22 hi g0 xs.length cap cur hh ad ys.length c (ys.map (Value.int .i64)) (by rw [hz1]; simp) hnews (ints_oneCell _ _) hroom (by rw [hz1, hcs]; simp; omega)
      rw [← hvv, h1] at hr
      injection hr with ev ew
      subst ev
      refine Or.inl ?_
      rw [hvv]
      exact hg
    · have holds := World.ownsRow.cells hv (g := g0) (by rw [hvv]; rfl)
      have hr := run_append_grow (P := Try.prog) w 22 ty 3 i (.int .i64 0) Try.underlying22 hi hz0 ⟨g0, 0, none⟩ xs.length cap (xs.map (Value.int .i64)) (by rw [hz1]; simp) holds ad ys.length c (ys.map (Value.int .i64)) (by rw [hz1]; simp) hnews (by omega) (by omega)
        (growslice_fits (by omega) (by rw [hz2]; omega))
      rw [← hvv, h1] at hr
      injection hr with ev ew
      subst ev
      simp only [Value.ownBlock, Option.some.injEq] at hg
      exact Or.inr (by omega)

theorem wpList_append_where {w : World} {ops : Array Oper} {rest : List Oper} {o : Oper} {a : Act} {Q : Exit → Act → World → Prop} (hgd : o.guard = none) (s x : Operand)
    (ho : o.op = .call { callee := .builtin .append, args := #[s, x], argTypes := #[22, 22] }) (B B' : Nat) (v u : Value) (xs ys : List Int) (hs : a.eval s = v) (hx : a.eval x = u)
    (hv : Own w B v xs) (hu : Own w B' u ys) (hb : xs.length + ys.length ≤ 1000000) (hB : B ≤ w.heap.size)
    (h : ∀ v' w', Own w' B v' (xs ++ ys) → w.grownBy w' v.ownBlock → (∀ g, v'.ownBlock = some g → v.ownBlock = some g ∨ w.heap.size ≤ g) → wpList Try.prog ops Q rest (a.put o.dst v') w') : wpList Try.prog ops Q (o :: rest) a w := by
  obtain ⟨i0, hi, hz0, hz1, hz2⟩ := info_parts Try.info3
  have hc := @World.ownsRow.cells _ _ _ _ _ _ _ hu
  rcases hu.2 with ⟨rfl, h0⟩ | ⟨g, cap, cur, rfl, hg, hh, _⟩
  · have hy : ys = [] := List.eq_nil_of_length_eq_zero h0
    subst hy
    refine wpList_append_own_none hgd s x 22 ho B 3 i0 1 Try.underlying22 hi v _ _ hs hv hx (h v w ?_ ⟨rfl, rfl, rfl, Nat.le_refl _, fun _ _ _ => rfl⟩ fun g hg => Or.inl hg)
    simpa using hv
  · refine wpList_plain hgd fun K hK => ?_
    obtain ⟨v', w', hr, h2, h3, h4⟩ := run_append_where o.type B v xs ys ⟨g, 0, none⟩ cap hv (hc (g := g) rfl) hb hB
    unfold Oper.wp
    simp [execOp, ho, resolve, invoke, builtin, hs, hx, hr, Result.andThen]
    exact hK _ _ (h v' w' h2 h3 h4)
end Go.Proofs.Ytaolbalcedhhbaa
