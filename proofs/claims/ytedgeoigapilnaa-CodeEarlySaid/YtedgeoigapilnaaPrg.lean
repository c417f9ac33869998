/- code: programs in memory: as they read (Insts, Funcs), and as the call itself builds them (IV, FV). -/
import Derived.Test.YtedgeoigapilnaaSpec
namespace Go.Proofs.Ytedgeoigapilnaa
open Go.RowKit

def flat (l : List In) : List Value := l.flatMap ic
theorem flat_length (l : List In) : (flat l).length = l.length * 4 := by
  induction l with
  | nil => rfl
  | cons j r ih => simp only [flat, List.flatMap_cons, List.length_append, List.length_cons] at ih ⊢; rw [ih]; simp [ic]; omega
theorem flat_append (a b : List In) : flat (a ++ b) = flat a ++ flat b := by simp [flat]
theorem flat_one (l : List In) : ∀ u ∈ flat l, u.oneCell' = true := by
  intro u hu
  obtain ⟨j, _, hj⟩ := List.mem_flatMap.1 hu
  simp [ic] at hj
  rcases hj with rfl | rfl | rfl | rfl <;> rfl
theorem flat_at (l : List In) (j i : Nat) (x : In) (u : Value) (h : l[j]? = some x) (hu : (ic x)[i]? = some u) : (flat l)[j * 4 + i]? = some u := by
  have hi : i < 4 := by
    rcases Nat.lt_or_ge i 4 with h' | h'
    · exact h'
    · rw [List.getElem?_eq_none (by simpa [ic] using h')] at hu; cases hu
  induction l generalizing j with
  | nil => simp at h
  | cons y r ih =>
    have e : flat (y :: r) = ic y ++ flat r := rfl
    have e4 : (ic y).length = 4 := rfl
    cases j with
    | zero =>
      simp only [List.getElem?_cons_zero, Option.some.injEq] at h
      subst h
      rw [e, List.getElem?_append_left (by rw [e4]; omega)]
      simpa using hu
    | succ j =>
      simp only [List.getElem?_cons_succ] at h
      rw [e, List.getElem?_append_right (by rw [e4]; omega), e4, show (j + 1) * 4 + i - 4 = j * 4 + i from by omega]
      exact ih j h

/-- v reads as the instructions l. -/
def Insts (w : World) (v : Value) (l : List In) : Prop :=
  l.length ≤ maxLen ∧ ∃ ao cap, v = .slice ao l.length cap ∧ ∀ j x, l[j]? = some x → ∃ b o, ao = some ⟨b, o, none⟩ ∧ ∀ i u, (ic x)[i]? = some u → w.cell? ⟨b, o + j * 4 + i, none⟩ = some u
/-- v reads as the functions fs. -/
def Funcs (w : World) (v : Value) (fs : List (List In)) : Prop :=
  fs.length ≤ maxLen ∧ ∃ ao cap, v = .slice ao fs.length cap ∧ ∀ j l, fs[j]? = some l → ∃ b o u, ao = some ⟨b, o, none⟩ ∧ w.cell? ⟨b, o + j, none⟩ = some u ∧ Insts w u l
theorem Insts.later {w w' : World} {v : Value} {l : List In} (h : Insts w v l) (t : Turns (fun _ => False) w w') : Insts w' v l := by
  obtain ⟨h1, ao, cap, h2, h3⟩ := h
  refine ⟨h1, ao, cap, h2, fun j x hx => ?_⟩
  obtain ⟨b, o, e, hc⟩ := h3 j x hx
  exact ⟨b, o, e, fun i u hu => t.cell (hc i u hu) (fun x => x)⟩
theorem Funcs.later {w w' : World} {v : Value} {fs : List (List In)} (h : Funcs w v fs) (t : Turns (fun _ => False) w w') : Funcs w' v fs := by
  obtain ⟨h1, ao, cap, h2, h3⟩ := h
  refine ⟨h1, ao, cap, h2, fun j x hx => ?_⟩
  obtain ⟨b, o, u, e, hc, hi⟩ := h3 j x hx
  exact ⟨b, o, u, e, t.cell hc (fun x => x), hi.later t⟩
theorem Funcs.nil (w : World) (ao : Option Addr) (cap : Nat) : Funcs w (.slice ao 0 cap) [] := ⟨by simp [maxLen], ao, cap, rfl, fun j l h => by simp at h⟩

theorem Try.info37 : (Try.prog.info? 37).map (fun i => (i.zero, i.size, i.bytes)) = some (some (.agg #[.int .i64 0, .int .i64 0, .int .i64 0, .int .i64 0]), 4, 32) := by kernel_rfl
theorem Try.info38 : (Try.prog.info? 38).map (fun i => (i.zero, i.size, i.bytes)) = some (some (.slice none 0 0), 1, 24) := by kernel_rfl

/-- A slice of instructions of the call's own. -/
def IV (w : World) (B : Nat) (v : Value) (l : List In) : Prop := View w B 37 4 v l.length (flat l)
theorem IV.later {w w' : World} {D : Nat → Prop} {B : Nat} {v : Value} {l : List In} (h : IV w B v l) (t : Turns D w w') (hD : ∀ g, v.ownBlock = some g → ¬ D g) : IV w' B v l := View.later h t hD
theorem IV.reads {w : World} {B : Nat} {v : Value} {l : List In} (h : IV w B v l) (hl : l.length ≤ maxLen) : Insts w v l := by
  refine ⟨hl, ?_⟩
  cases hn : l with
  | nil =>
    subst hn
    obtain ⟨ao, cap, e⟩ := View.val h
    exact ⟨ao, cap, e, fun j x hx => by simp at hx⟩
  | cons y r =>
    rw [← hn]
    obtain ⟨g, o, cap, e, _, _, _, _, _, hc⟩ := View.cells h (by rw [hn]; simp)
    refine ⟨_, cap, e, fun j x hx => ⟨g, o, rfl, fun i u hu => ?_⟩⟩
    rw [Nat.add_assoc]
    exact hc _ _ (flat_at l j i x u hx hu)

/-- 'append(l, instruction)': the instruction in a new block. -/
theorem wpList_append_inst {w : World} {ops : Array Oper} {rest : List Oper} {o : Oper} {a : Act} {Q : Exit → Act → World → Prop} (hgd : o.guard = none) (s y : Operand)
    (ho : o.op = .call { callee := .builtin .append, args := #[s, y], argTypes := #[38, 38] }) (B : Nat) (v : Value) (l : List In) (b c : Nat) (x : In)
    (hsv : a.eval s = v) (hyv : a.eval y = .slice (some ⟨b, 0, none⟩) 1 c) (hv : IV w B v l) (hx : Row w b 37 (ic x))
    (hb : l.length ≤ 100000) (hB : B ≤ w.heap.size)
    (h : ∀ v' w', IV w' B v' (l ++ [x]) → Grew w w' v B → Lies w v v' →
      wpList Try.prog ops Q rest (a.put o.dst v') w') : wpList Try.prog ops Q (o :: rest) a w := by
  obtain ⟨i, hi, hz0, hz1, hz2⟩ := info_parts Try.info37
  refine wpList_append_view hgd s y 38 37 4 32 _ i ho Try.underlying38 hi hz0 hz1 hz2 rfl B v _ l.length 1 (flat l) (ic x) hsv hyv hv ?_ (by unfold maxLen; omega) (by omega) hB ?_
  · refine Src.ofSlice w Try.underlying38 ⟨b, 0, none⟩ 1 c (ic x) rfl (fun k u hu => ?_) (fun u hu => flat_one [x] u (by simpa [flat] using hu))
    rw [Addr.add_lit, Nat.zero_add]
    exact hx.cell k u hu
  · intro v' w' hv' hg hw
    refine h v' w' ?_ hg hw
    unfold IV
    rw [flat_append, List.length_append]
    exact hv'

/-- A slice of functions of the call's own: the outer slice and the inner ones, apart. -/
def FV (w : World) (B : Nat) (v : Value) (fs : List (List In)) : Prop :=
  ∃ us : List Value, us.length = fs.length ∧ View w B 38 1 v fs.length us ∧ ∀ (j : Nat) (u : Value) (l : List In), us[j]? = some u → fs[j]? = some l → IV w B u l ∧ l.length ≤ 100000 ∧ ∀ g, u.ownBlock = some g → v.ownBlock ≠ some g
theorem FV.later {w w' : World} {D : Nat → Prop} {B : Nat} {v : Value} {fs : List (List In)} (h : FV w B v fs) (t : Turns D w w') (hD : ∀ g, B ≤ g → g < w.heap.size → ¬ D g) : FV w' B v fs := by
  obtain ⟨us, h1, h2, h3⟩ := h
  refine ⟨us, h1, View.later h2 t (fun g hg => hD g (View.low h2 g hg) (View.lt h2 g hg)), fun j u l hu hl => ?_⟩
  obtain ⟨a, b, c⟩ := h3 j u l hu hl
  exact ⟨a.later t (fun g hg => hD g (View.low a g hg) (View.lt a g hg)), b, c⟩
theorem FV.nil (w : World) (B : Nat) : FV w B (.slice none 0 0) [] := ⟨[], rfl, View.zero _ _ _ _, fun j u l h => by simp at h⟩
theorem FV.reads {w : World} {B : Nat} {v : Value} {fs : List (List In)} (h : FV w B v fs) (hl : fs.length ≤ maxLen) : Funcs w v fs := by
  obtain ⟨us, h1, h2, h3⟩ := h
  refine ⟨hl, ?_⟩
  cases hn : fs with
  | nil =>
    subst hn
    obtain ⟨ao, cap, e⟩ := View.val h2
    exact ⟨ao, cap, e, fun j x hx => by simp at hx⟩
  | cons y r =>
    rw [← hn]
    obtain ⟨g, o, cap, e, _, _, _, _, _, hc⟩ := View.cells h2 (by rw [hn]; simp)
    refine ⟨_, cap, e, fun j l hj => ?_⟩
    have hlt : j < us.length := by
      rw [h1]
      rcases Nat.lt_or_ge j fs.length with h' | h'
      · exact h'
      · rw [List.getElem?_eq_none h'] at hj; cases hj
    obtain ⟨a, b, _⟩ := h3 j us[j] l (List.getElem?_eq_getElem hlt) hj
    exact ⟨g, o, us[j], rfl, hc j _ (List.getElem?_eq_getElem hlt), a.reads (by unfold maxLen; omega)⟩

/-- 'append(fs, l)': l in a new block. -/
theorem wpList_append_func {w : World} {ops : Array Oper} {rest : List Oper} {o : Oper} {a : Act} {Q : Exit → Act → World → Prop} (hgd : o.guard = none) (s y : Operand)
    (ho : o.op = .call { callee := .builtin .append, args := #[s, y], argTypes := #[22, 22] }) (B : Nat) (v : Value) (fs : List (List In)) (b c : Nat) (u : Value) (l : List In)
    (hsv : a.eval s = v) (hyv : a.eval y = .slice (some ⟨b, 0, none⟩) 1 c) (hv : FV w B v fs) (hx : Row w b 38 [u]) (hu1 : u.oneCell' = true) (hu : IV w B u l) (hl : l.length ≤ 100000)
    (hne : ∀ g, u.ownBlock = some g → v.ownBlock ≠ some g) (hb : fs.length ≤ 100000) (hB : B ≤ w.heap.size)
    (h : ∀ v' w', FV w' B v' (fs ++ [l]) → Grew w w' v B → Lies w v v' →
      wpList Try.prog ops Q rest (a.put o.dst v') w') : wpList Try.prog ops Q (o :: rest) a w := by
  obtain ⟨i, hi, hz0, hz1, hz2⟩ := info_parts Try.info38
  obtain ⟨us, h1, h2, h3⟩ := hv
  refine wpList_append_view hgd s y 22 38 1 24 _ i ho Try.underlying22 hi hz0 hz1 hz2 rfl B v _ fs.length 1 us [u] hsv hyv h2 ?_ (by unfold maxLen; omega) (by omega) hB ?_
  · refine Src.ofSlice w Try.underlying22 ⟨b, 0, none⟩ 1 c [u] rfl (fun k u' hu' => ?_) (fun u' hu' => ?_)
    · rw [Addr.add_lit, Nat.zero_add]
      exact hx.cell k u' hu'
    · simp at hu'; subst hu'; exact hu1
  · intro v' w' hv' hg hw
    refine h v' w' ?_ hg hw
    refine ⟨us ++ [u], by simp [h1], by rw [List.length_append]; exact hv', fun j u' l' hj hj' => ?_⟩
    have key : ∀ u' l', IV w B u' l' → l'.length ≤ 100000 → (∀ g, u'.ownBlock = some g → v.ownBlock ≠ some g) → IV w' B u' l' ∧ l'.length ≤ 100000 ∧ ∀ g, u'.ownBlock = some g → v'.ownBlock ≠ some g := by
      intro u' l' a b c
      refine ⟨a.later hg.turns (fun g hg' => c g hg'), b, fun g hg' e => ?_⟩
      rcases hw g e with e' | e'
      · exact c g hg' e'
      · have := View.lt a g hg'; omega
    rcases Nat.lt_or_ge j us.length with hlt | hge
    · rw [List.getElem?_append_left hlt] at hj
      rw [List.getElem?_append_left (by omega)] at hj'
      obtain ⟨a, b, c⟩ := h3 j u' l' hj hj'
      exact key u' l' a b c
    · rw [List.getElem?_append_right hge] at hj
      rw [List.getElem?_append_right (by omega)] at hj'
      have hj0 : j - us.length = 0 := by
        rcases Nat.eq_zero_or_pos (j - us.length) with h' | h'
        · exact h'
        · rw [List.getElem?_eq_none (by simp; omega)] at hj; cases hj
      rw [hj0] at hj
      rw [← h1, hj0] at hj'
      simp at hj hj'
      subst hj hj'
      exact key u l hu hl hne
end Go.Proofs.Ytedgeoigapilnaa
