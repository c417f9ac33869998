/- code: rows of made instructions, each in its own block, and the outer slice that holds them; the last cell written. -/
import Derived.Test.YtedgeoigapilnaaBnd
namespace Go.Proofs.Ytedgeoigapilnaa
open Go.RowKit

def rowOf (K b : Nat) : Value := .slice (some ⟨b, 0, none⟩) K K
/-- The outer slice v holds a made row of K instructions for each block of bs. -/
def Made (w : World) (B K : Nat) (v : Value) (bs : List Nat) : Prop :=
  bs.Nodup ∧ (∀ b ∈ bs, B ≤ b ∧ Row w b 37 (flat (List.replicate K in0)) ∧ v.ownBlock ≠ some b) ∧ View w B 38 1 v bs.length (bs.map (rowOf K))
theorem Made.nil (w : World) (B K : Nat) : Made w B K (.slice none 0 0) [] := ⟨List.nodup_nil, fun b h => by simp at h, View.zero _ _ _ _⟩
theorem Made.later {w w' : World} {D : Nat → Prop} {B K : Nat} {v : Value} {bs : List Nat} (h : Made w B K v bs) (t : Turns D w w') (hD : ∀ g, B ≤ g → g < w.heap.size → ¬ D g) : Made w' B K v bs :=
  ⟨h.1, fun b hb => ⟨(h.2.1 b hb).1, (h.2.1 b hb).2.1.later t (hD b (h.2.1 b hb).1 (h.2.1 b hb).2.1.lt), (h.2.1 b hb).2.2⟩, h.2.2.later t (fun g hg => hD g (View.low h.2.2 g hg) (View.lt h.2.2 g hg))⟩
/-- 'make([]Inst, K)' as a step of a region that draws. -/
theorem step_make_insts {w : World} {ops : Array Oper} {o : Oper} {a : Act} {K' : Act → World → Prop} {Q : Exit → Act → World → Prop} {E : Prop} (hgd : o.guard = none) (n : Operand) (ho : o.op = .makeSlice 38 n n)
    (K : Nat) (hK : K ≤ 64) (hn : a.eval n = .int .i64 (K : Int)) (h : K' (a.put o.dst (rowOf K w.heap.size)) (w.alloc (.cells (flat (List.replicate K in0)).toArray 37))) :
    if Region.wanted o (yielded ops a.tmps) = true then Oper.wp Try.prog o a w K' Q else E := by
  have hw : Region.wanted o (yielded ops a.tmps) = true := by simp [Region.wanted, hgd]
  rw [if_pos hw]
  have hr := run_make_insts K hK w
  unfold Oper.wp
  simp [execOp, ho, hn, hr, Result.andThen]
  exact h
/-- 'append(fs, row)' as a step of a region that draws. -/
theorem step_append_made {w : World} {ops : Array Oper} {o : Oper} {a : Act} {K' : Act → World → Prop} {Q : Exit → Act → World → Prop} {E : Prop} (hgd : o.guard = none) (s y : Operand)
    (ho : o.op = .call { callee := .builtin .append, args := #[s, y], argTypes := #[22, 22] }) (B K : Nat) (v : Value) (bs : List Nat) (b c d : Nat)
    (hsv : a.eval s = v) (hyv : a.eval y = .slice (some ⟨c, 0, none⟩) 1 d) (M : Made w B K v bs) (hc : Row w c 38 [rowOf K b]) (hb : Row w b 37 (flat (List.replicate K in0)))
    (hBb : B ≤ b) (hnew : b ∉ bs) (hv : v.ownBlock ≠ some b) (hl : bs.length ≤ 100000) (hB : B ≤ w.heap.size)
    (h : ∀ v' w', Made w' B K v' (bs ++ [b]) → Grew w w' v B → Lies w v v' → K' (a.put o.dst v') w') :
    if Region.wanted o (yielded ops a.tmps) = true then Oper.wp Try.prog o a w K' Q else E := by
  obtain ⟨i, hi, hz0, hz1, hz2⟩ := info_parts Try.info38
  obtain ⟨h1, h2, h3⟩ := M
  refine step_append_view hgd s y 22 38 1 24 _ i ho Try.underlying22 hi hz0 hz1 hz2 rfl B v _ bs.length 1 (bs.map (rowOf K)) [rowOf K b] hsv hyv h3 ?_ (by unfold maxLen; omega) (by omega) hB ?_
  · refine Src.ofSlice w Try.underlying22 ⟨c, 0, none⟩ 1 d [rowOf K b] rfl (fun k u' hu' => ?_) (fun u' hu' => ?_)
    · rw [Addr.add_lit, Nat.zero_add]
      exact hc.cell k u' hu'
    · simp at hu'; subst hu'; rfl
  · intro v' w' hv' hg hw
    refine h v' w' ⟨?_, fun b' hb' => ?_, ?_⟩ hg hw
    · rw [List.nodup_append]
      refine ⟨h1, by simp, fun a ha b' hb' => ?_⟩
      rw [List.mem_singleton.1 hb']
      intro e
      exact hnew (e ▸ ha)
    · have key : ∀ x, B ≤ x → Row w x 37 (flat (List.replicate K in0)) → v.ownBlock ≠ some x → B ≤ x ∧ Row w' x 37 (flat (List.replicate K in0)) ∧ v'.ownBlock ≠ some x := by
        intro x p q r
        refine ⟨p, q.later hg.turns r, fun e => ?_⟩
        rcases hw x e with e' | e'
        · exact r e'
        · have := q.lt; omega
      rcases List.mem_append.1 hb' with h | h
      · obtain ⟨p, q, r⟩ := h2 b' h
        exact key b' p q r
      · rw [List.mem_singleton.1 h]
        exact key b hBb hb hv
    · rw [List.length_append, List.map_append]
      exact hv'

/-- The row of the last block, its last instruction written. -/
theorem flat_last (s : Nat) (y : In) : flat (List.replicate s in0) ++ ic y = flat (List.replicate s in0 ++ [y]) := by rw [flat_append]; simp [flat]
theorem set4 (p : List Value) (a b c d x y z t : Value) (n : Nat) (h : p.length = n) : ((((p ++ [a, b, c, d]).set n x).set (n + 1) y).set (n + 2) z).set (n + 3) t = p ++ [x, y, z, t] := by
  subst h
  apply List.ext_getElem?
  intro i
  simp only [List.getElem?_set, List.length_set, List.length_append, List.length_cons, List.length_nil]
  rcases Nat.lt_or_ge i p.length with h | h
  · rw [if_neg (by omega), if_neg (by omega), if_neg (by omega), if_neg (by omega), List.getElem?_append_left h, List.getElem?_append_left h]
  · obtain ⟨k, rfl⟩ : ∃ k, i = p.length + k := ⟨i - p.length, by omega⟩
    rw [List.getElem?_append_right h, List.getElem?_append_right h, Nat.add_sub_cancel_left]
    rcases (by omega : k = 0 ∨ k = 1 ∨ k = 2 ∨ k = 3 ∨ 4 ≤ k) with rfl | rfl | rfl | rfl | hk
    · simp
    · simp
    · simp
    · simp
    · rw [if_neg (by omega), if_neg (by omega), if_neg (by omega), if_neg (by omega), List.getElem?_eq_none (by simp; omega), List.getElem?_eq_none (by simp; omega)]
theorem Row.last {w : World} {b s : Nat} (y : In) (h : Row w b 37 (flat (List.replicate (s + 1) in0))) :
    Row ((((w.setCell ⟨b, s * 4, none⟩ (.int .i64 y.op)).setCell ⟨b, s * 4 + 1, none⟩ (.int .i64 y.a)).setCell ⟨b, s * 4 + 2, none⟩ (.int .i64 y.b)).setCell ⟨b, s * 4 + 3, none⟩ (.int .i64 y.c)) b 37 (flat (List.replicate s in0 ++ [y])) := by
  have h1 := (((h.set (s * 4) (.int .i64 y.op)).set (s * 4 + 1) (.int .i64 y.a)).set (s * 4 + 2) (.int .i64 y.b)).set (s * 4 + 3) (.int .i64 y.c)
  have e : flat (List.replicate (s + 1) in0) = flat (List.replicate s in0) ++ [.int .i64 0, .int .i64 0, .int .i64 0, .int .i64 0] := by
    rw [List.replicate_succ']
    exact (flat_last s in0).symm
  rw [e, set4 _ _ _ _ _ _ _ _ _ _ (by rw [flat_length, List.length_replicate])] at h1
  rw [← flat_last]
  exact h1
theorem insts_of_row {w : World} {b K : Nat} {l : List In} (h : Row w b 37 (flat l)) (hl : l.length = K) (hK : K ≤ 1000) : Insts w (rowOf K b) l := by
  refine ⟨by unfold maxLen; omega, some ⟨b, 0, none⟩, K, by rw [hl]; rfl, fun j x hx => ⟨b, 0, rfl, fun i u hu => ?_⟩⟩
  rw [Nat.zero_add]
  exact h.cell _ _ (flat_at l j i x u hx hu)
theorem Made.funcs {w w' : World} {B s : Nat} {v : Value} {bs : List Nat} {b : Nat} {y : In} (M : Made w B (s + 1) v (bs ++ [b])) (t : Turns (fun x => x = b) w w') (hr : Row w' b 37 (flat (List.replicate s in0 ++ [y]))) (hs : s < 900) (hN : bs.length < 900) :
    Funcs w' v (bFs (bs.length + 1) (s + 1) y) := by
  obtain ⟨h1, h2, h3⟩ := M
  have hl := bFs_length (bs.length + 1) (s + 1) y (by omega)
  refine ⟨by rw [hl]; unfold maxLen; omega, ?_⟩
  have h4 := h3.later t (fun g hg e => (h2 b (by simp)).2.2 (by rw [hg, e]))
  obtain ⟨g, o, cap, e, _, _, _, _, _, hc⟩ := View.cells h4 (by simp)
  refine ⟨some ⟨g, o, none⟩, cap, by rw [e, hl]; simp, fun j l hj => ?_⟩
  have hj' : j < bs.length + 1 := by
    rcases Nat.lt_or_ge j (bs.length + 1) with h | h
    · exact h
    · rw [List.getElem?_eq_none (by omega)] at hj; cases hj
  have hbx : ∃ x, (bs ++ [b])[j]? = some x := ⟨_, List.getElem?_eq_getElem (by simpa using hj')⟩
  obtain ⟨x, hx⟩ := hbx
  refine ⟨g, o, rowOf (s + 1) x, rfl, hc j _ (by rw [List.getElem?_map, hx]; rfl), ?_⟩
  unfold bFs at hj
  rw [Nat.add_sub_cancel] at hj
  rcases Nat.lt_or_ge j bs.length with h | h
  · rw [List.getElem?_append_left (by simpa using h), List.getElem?_replicate, if_pos h] at hj
    cases hj
    rw [List.getElem?_append_left h] at hx
    have hmem := List.mem_of_getElem? hx
    have hne : x ≠ b := by
      rw [List.nodup_append] at h1
      exact h1.2.2 x hmem b (by simp)
    exact insts_of_row ((h2 x (by simp [hmem])).2.1.later t (fun e => hne e)) (by simp) (by omega)
  · obtain rfl : j = bs.length := by omega
    rw [List.getElem?_append_right (by simp)] at hj
    rw [List.getElem?_append_right (Nat.le_refl _)] at hx
    simp at hj hx
    subst hj hx
    exact insts_of_row hr (by simp) (by omega)
end Go.Proofs.Ytedgeoigapilnaa
