/- A slice of the call's own, cut at its front or not: 'View w B e k v n cs': n elements of k cells each, the cells cs; in a block from B on. -/
import Derived.Test.YtedgeoigapilnaaBase
import Derived.Deep.AppendSrc
namespace Go.Proofs.Ytedgeoigapilnaa
open Go.RowKit

def View (w : World) (B e k : Nat) (v : Value) (n : Nat) (cs : List Value) : Prop :=
  cs.length = n * k ∧ (∀ u ∈ cs, u.oneCell' = true) ∧ ((∃ ao, v = .slice ao 0 0 ∧ n = 0 ∧ ∀ a, ao = some a → B ≤ a.block ∧ a.block < w.heap.size) ∨
    ∃ g o cap cur, v = .slice (some ⟨g, o, none⟩) n cap ∧ B ≤ g ∧ w.heap[g]? = some (.cells cur e (0, 0)) ∧ n ≤ cap ∧ cap ≤ maxLen ∧ o + cap * k ≤ cur.size ∧ (cur.toList.drop o).take (n * k) = cs)

theorem View.nil (w : World) (B e k : Nat) (ao : Option Addr) (h : ∀ a, ao = some a → B ≤ a.block ∧ a.block < w.heap.size) : View w B e k (.slice ao 0 0) 0 [] := ⟨by simp, fun _ h => by simp at h, .inl ⟨ao, rfl, rfl, h⟩⟩
theorem View.zero (w : World) (B e k : Nat) : View w B e k (.slice Option.none 0 0) 0 [] := View.nil w B e k _ (fun _ h => by cases h)
theorem View.low {w : World} {B e k : Nat} {v : Value} {n : Nat} {cs : List Value} (h : View w B e k v n cs) : ∀ g, v.ownBlock = some g → B ≤ g := by
  intro g hg
  rcases h.2.2 with ⟨ao, rfl, _, h⟩ | ⟨g', o, cap, cur, rfl, hb, _⟩
  · cases ao with
    | none => simp [Value.ownBlock] at hg
    | some a => simp only [Value.ownBlock, Option.some.injEq] at hg; subst hg; exact (h a rfl).1
  · simp only [Value.ownBlock, Option.some.injEq] at hg; omega
theorem View.lt {w : World} {B e k : Nat} {v : Value} {n : Nat} {cs : List Value} (h : View w B e k v n cs) : ∀ g, v.ownBlock = some g → g < w.heap.size := by
  intro g hg
  rcases h.2.2 with ⟨ao, rfl, _, h⟩ | ⟨g', o, cap, cur, rfl, _, hh, _⟩
  · cases ao with
    | none => simp [Value.ownBlock] at hg
    | some a => simp only [Value.ownBlock, Option.some.injEq] at hg; subst hg; exact (h a rfl).2
  · simp only [Value.ownBlock, Option.some.injEq] at hg; subst hg; exact lt_of_block hh
theorem View.later {w w' : World} {D : Nat → Prop} {B e k : Nat} {v : Value} {n : Nat} {cs : List Value} (h : View w B e k v n cs) (t : Turns D w w') (hD : ∀ g, v.ownBlock = some g → ¬ D g) : View w' B e k v n cs := by
  refine ⟨h.1, h.2.1, ?_⟩
  rcases h.2.2 with ⟨ao, h1, h2, h3⟩ | ⟨g, o, cap, cur, hv, hg, hh, r⟩
  · exact .inl ⟨ao, h1, h2, fun a ha => ⟨(h3 a ha).1, Nat.lt_of_lt_of_le (h3 a ha).2 t.size⟩⟩
  · exact .inr ⟨g, o, cap, cur, hv, hg, t.heap hh (hD g (by rw [hv]; rfl)), r⟩
theorem View.base {w : World} {B B' e k : Nat} {v : Value} {n : Nat} {cs : List Value} (h : View w B e k v n cs) (hB : B' ≤ B) : View w B' e k v n cs := by
  refine ⟨h.1, h.2.1, ?_⟩
  rcases h.2.2 with ⟨ao, h1, h2, h3⟩ | ⟨g, o, cap, cur, hv, hg, r⟩
  · exact .inl ⟨ao, h1, h2, fun a ha => ⟨Nat.le_trans hB (h3 a ha).1, (h3 a ha).2⟩⟩
  · exact .inr ⟨g, o, cap, cur, hv, Nat.le_trans hB hg, r⟩
theorem View.val {w : World} {B e k : Nat} {v : Value} {n : Nat} {cs : List Value} (h : View w B e k v n cs) : ∃ ao cap, v = .slice ao n cap := by
  rcases h.2.2 with ⟨ao, rfl, rfl, _⟩ | ⟨g, o, cap, cur, rfl, _⟩
  · exact ⟨_, _, rfl⟩
  · exact ⟨_, _, rfl⟩
theorem View.cells {w : World} {B e k : Nat} {v : Value} {n : Nat} {cs : List Value} (h : View w B e k v n cs) (hn : 0 < n) :
    ∃ g o cap, v = .slice (some ⟨g, o, none⟩) n cap ∧ B ≤ g ∧ g < w.heap.size ∧ n ≤ cap ∧ cap ≤ maxLen ∧ v.ownBlock = some g ∧ ∀ j u, cs[j]? = some u → w.cell? ⟨g, o + j, none⟩ = some u := by
  rcases h.2.2 with ⟨ao, rfl, rfl, _⟩ | ⟨g, o, cap, cur, rfl, hg, hh, hn', hm, hs, ht⟩
  · omega
  · refine ⟨g, o, cap, rfl, hg, lt_of_block hh, hn', hm, rfl, fun j u hu => ?_⟩
    rw [cell_of_row w g (o + j) cur e (0, 0) hh]
    rw [← ht, List.getElem?_take] at hu
    split at hu
    · rw [List.getElem?_drop] at hu; simpa using hu
    · cases hu
theorem View.src {w : World} {B e k t : Nat} {v : Value} {n : Nat} {cs : List Value} (ht : Try.prog.underlying t = some (.slice e)) (h : View w B e k v n cs) : Src Try.prog k t v n cs w := by
  rcases h.2.2 with ⟨ao, rfl, rfl, _⟩ | ⟨g, o, cap, cur, rfl, hg, hh, hn', hm, hs, hc⟩
  · have : cs = [] := List.eq_nil_of_length_eq_zero (by simpa using h.1)
    subst this
    cases ao with
    | none => exact Src.ofNil w ht 0
    | some a => exact Src.ofSlice w ht a 0 0 [] (by simp) (fun j u hu => by simp at hu) (fun _ hu => by simp at hu)
  · refine Src.ofSlice w ht ⟨g, o, none⟩ n cap cs h.1 (fun j u hu => ?_) h.2.1
    rw [Addr.add_lit, cell_of_row w g (o + j) cur e (0, 0) hh]
    rw [← hc, List.getElem?_take] at hu
    split at hu
    · rw [List.getElem?_drop] at hu; simpa using hu
    · cases hu

theorem modify_same {c : Array Obj} {g : Nat} {o : Obj} (f : Obj → Obj) (h : c[g]? = some o) : (c.modify g f)[g]? = some (f o) := by
  have hlt : g < c.size := by
    rcases Nat.lt_or_ge g c.size with h' | h'
    · exact h'
    · simp [Array.getElem?_eq_none h'] at h
  have h' : c[g] = o := by simpa [Array.getElem?_eq_getElem hlt] using h
  rw [Array.getElem?_eq_getElem (by simpa using hlt), Array.getElem_modify_self, h']

/-- What stores into a row of cells leave. -/
theorem setCells_row {g e : Nat} : ∀ (vs : List Value) (o : Nat) (w : World) (cur : Array Value), w.heap[g]? = some (.cells cur e (0, 0)) → o + vs.length ≤ cur.size →
    ∃ cur', (w.setCells g o vs).heap[g]? = some (.cells cur' e (0, 0)) ∧ cur'.size = cur.size ∧ cur'.toList.take o = cur.toList.take o ∧ (cur'.toList.drop o).take vs.length = vs
  | [], o, w, cur, h, _ => ⟨cur, h, rfl, rfl, by simp⟩
  | v :: r, o, w, cur, h, hl => by
    have h1 : (w.setCell ⟨g, o, none⟩ v).heap[g]? = some (.cells (cur.setIfInBounds o v) e (0, 0)) := by
      show (w.heap.modify g _)[g]? = _
      rw [modify_same _ h]
      rfl
    simp only [List.length_cons] at hl
    obtain ⟨cur', e1, e2, e3, e4⟩ := setCells_row r (o + 1) (w.setCell ⟨g, o, none⟩ v) (cur.setIfInBounds o v) h1 (by simp; omega)
    have hs : cur'.size = cur.size := by rw [e2]; simp
    refine ⟨cur', e1, hs, ?_, ?_⟩
    · have := congrArg (List.take o) e3
      rw [List.take_take, List.take_take, Nat.min_eq_left (by omega)] at this
      rw [this]
      simp only [Array.toList_setIfInBounds]
      rw [List.take_set_of_le (by omega)]
    · have ho : o < cur'.toList.length := by rw [Array.length_toList, hs]; omega
      rw [List.drop_eq_getElem_cons ho, List.length_cons, List.take_succ_cons, e4]
      congr 1
      have h3 : cur'.toList[o]? = ((cur.setIfInBounds o v).toList)[o]? := by
        have a := congrArg (fun l => l[o]?) e3
        simp only [List.getElem?_take] at a
        rw [if_pos (by omega), if_pos (by omega)] at a
        exact a
      rw [List.getElem?_eq_getElem ho] at h3
      have h4 : ((cur.setIfInBounds o v).toList)[o]? = some v := by
        rw [Array.toList_setIfInBounds, List.getElem?_set_self (by rw [Array.length_toList]; omega)]
      rw [h4] at h3
      exact Option.some.inj h3

/-- w' is w with new blocks, and writes to v's block at most. -/
def Grew (w w' : World) (v : Value) (B : Nat) : Prop := ∃ row, w.grownBy w' row ∧ ∀ g, row = some g → v.ownBlock = some g ∧ B ≤ g ∧ g < w.heap.size
/-- v' lies where v lay, or in a new block. -/
def Lies (w : World) (v v' : Value) : Prop := ∀ g, v'.ownBlock = some g → v.ownBlock = some g ∨ w.heap.size ≤ g
theorem Grew.turns {w w' : World} {v : Value} {B : Nat} (h : Grew w w' v B) : Turns (fun x => v.ownBlock = some x) w w' := by
  obtain ⟨row, hgr, hrow⟩ := h
  exact ⟨hgr.os, hgr.tape, hgr.output, hgr.size, fun k hk hD => hgr.block k hk fun e => hD (hrow k e.symm).1⟩

theorem run_append_view {w : World} (t ty e k by_ : Nat) (z : Value) (i : TypeInfo) (ht : Try.prog.underlying t = some (.slice e)) (hi : Try.prog.info? e = some i) (hz : i.zero = some z) (hk : i.size = k) (hb : i.bytes = by_) (hzs : z.cells.size = k)
    (B : Nat) (v x : Value) (n m : Nat) (cs news : List Value) (hv : View w B e k v n cs) (hs : Src Try.prog k t x m news w) (h63 : n + m ≤ maxLen) (hby : (n + m) * by_ ≤ 140737488355328) (hB : B ≤ w.heap.size) :
    ∃ v' w', (Builtin.append_ #[t, t] ty #[v, x]).run Try.prog w = .ok v' w' ∧ View w' B e k v' (n + m) (cs ++ news) ∧
      Grew w w' v B ∧ Lies w v v' := by
  subst hk
  subst hb
  have hlen : (cs ++ news).length = (n + m) * i.size := by rw [List.length_append, hv.1, hs.newsLen, Nat.add_mul]
  have hone : ∀ u ∈ cs ++ news, u.oneCell' = true := fun u hu => by
    rcases List.mem_append.1 hu with h | h
    · exact hv.2.1 u h
    · exact hs.one u h
  have grown : ∀ (ao : Option Addr) (cap : Nat), v = .slice ao n cap → cap < n + m → (Builtin.firstCells i.size n (.slice ao n cap)).run Try.prog w.drew = .ok cs.toArray w.drew →
      ∃ v' w', (Builtin.append_ #[t, t] ty #[v, x]).run Try.prog w = .ok v' w' ∧ View w' B e i.size v' (n + m) (cs ++ news) ∧
      Grew w w' v B ∧ Lies w v v' := by
    intro ao cap hvv hcap hold
    have hr := run_append_grow_src (P := Try.prog) w t t ty e i z ht hi hz ao n cap cs hold x m news hs hcap (by simp only [maxLen] at h63; omega) (growslice_fits hcap hby)
    rw [← hvv] at hr
    have hge := grownCap_ge w (n + m) cap e
    refine ⟨_, _, hr, ⟨hlen, hone, .inr ⟨w.heap.size, 0, _, _, rfl, hB, heap_alloc_new w.drew _, hge, grownCap_le_maxLen w (n + m) cap e h63, ?_, ?_⟩⟩, ⟨none, ⟨rfl, rfl, rfl, by simp, fun j hj _ => Below.heap_alloc w.drew _ j hj⟩, fun g hg => by cases hg⟩, fun g hg => ?_⟩
    · simp only [Array.size_append, List.size_toArray, size_zeroCells, hzs, hlen, Nat.zero_add, ← Nat.add_mul]
      rw [Nat.add_sub_cancel' hge]
      exact Nat.le_refl _
    · simp only [List.drop_zero, Array.toList_append]
      rw [← hlen]
      exact List.take_left
    · simp only [Value.ownBlock, Option.some.injEq] at hg
      exact Or.inr (by omega)
  rcases hv.2.2 with ⟨ao, hvv, rfl, hlow⟩ | ⟨g, o, cap, cur, hvv, hg, hh, hn, hm, hsz, hc⟩
  · have hcs : cs = [] := List.eq_nil_of_length_eq_zero (by simpa using hv.1)
    subst hcs
    by_cases h0 : m = 0
    · subst h0
      have hnews : news = [] := List.eq_nil_of_length_eq_zero (by simpa using hs.newsLen)
      subst hnews
      subst hvv
      refine ⟨.slice ao 0 0, w, ?_, View.nil _ _ _ _ _ hlow, ⟨none, ⟨rfl, rfl, rfl, Nat.le_refl _, fun _ _ _ => rfl⟩, fun g hg => by cases hg⟩, fun g hg => Or.inl hg⟩
      have hlo := hs.len w
      have hfc := hs.cells
      rcases hs.kind with ⟨e', hk⟩ | hk
      · cases ao <;> simp [Builtin.append_, run_underlying ht, sizeOf, typeInfo, hi, hlo, hfc, storeCells]
      · rw [ht] at hk; cases hk
    · exact grown ao 0 hvv (by omega) (by cases ao <;> simp [Builtin.firstCells, loadCells, loadCellsFrom])
  · by_cases hroom : n + m ≤ cap
    · have hin : ∀ j, j < news.length → o + n * i.size + j < cur.size := fun j hj => by
        have h1 : (n + m) * i.size ≤ cap * i.size := Nat.mul_le_mul_right _ hroom
        rw [Nat.add_mul] at h1
        rw [hs.newsLen] at hj
        omega
      have hr := run_append_room_src (P := Try.prog) w t t ty e i ht hi g o n cap x m news hs hroom (fun j hj => by rw [cell_of_row w g _ cur e (0, 0) hh]; simp [hin j hj]) (fun j _ => by simp [World.frozen?, hh])
      rw [← hvv] at hr
      obtain ⟨cur', c1, c2, c3, c4⟩ := setCells_row news (o + n * i.size) w cur hh (by have h1 : (n + m) * i.size ≤ cap * i.size := Nat.mul_le_mul_right _ hroom; rw [Nat.add_mul] at h1; rw [hs.newsLen]; omega)
      refine ⟨_, _, hr, ⟨hlen, hone, .inr ⟨g, o, cap, cur', rfl, hg, c1, hroom, hm, by rw [c2]; exact hsz, ?_⟩⟩, ⟨Option.some g, ⟨?_, ?_, ?_, ?_, ?_⟩, fun g' hg' => ?_⟩, fun g' hg' => ?_⟩
      · have hsplit : (cur'.toList.drop o).take ((n + m) * i.size) = (cur'.toList.drop o).take (n * i.size) ++ (cur'.toList.drop (o + n * i.size)).take (m * i.size) := by
          rw [Nat.add_mul, List.take_add, List.drop_drop]
        rw [hsplit, ← hs.newsLen, c4]
        congr 1
        rw [← hc]
        have a := congrArg (List.drop o) c3
        rw [List.drop_take, List.drop_take, Nat.add_sub_cancel_left] at a
        exact a
      all_goals first
        | exact (Turns.setCells (D := fun j => j = g) (Or.inl rfl) news (o + n * i.size) w (Turns.refl _ w)).os
        | exact (Turns.setCells (D := fun j => j = g) (Or.inl rfl) news (o + n * i.size) w (Turns.refl _ w)).tape
        | exact (Turns.setCells (D := fun j => j = g) (Or.inl rfl) news (o + n * i.size) w (Turns.refl _ w)).output
        | exact (Turns.setCells (D := fun j => j = g) (Or.inl rfl) news (o + n * i.size) w (Turns.refl _ w)).size
        | exact fun j hj hne => (Turns.setCells (D := fun j => j = g) (Or.inl rfl) news (o + n * i.size) w (Turns.refl _ w)).block j hj (fun x => hne (by rw [x]))
        | (obtain rfl := Option.some.inj hg'; exact ⟨by rw [hvv]; rfl, hg, lt_of_block hh⟩)
        | (rw [hvv]; exact Or.inl hg')
    · refine grown (Option.some ⟨g, o, none⟩) cap hvv (by omega) ?_
      refine run_firstCells_some w.drew i.size n ⟨g, o, none⟩ n cap cs hv.1 (fun j u hu => ?_)
      rw [Addr.add_lit]
      show w.cell? _ = _
      rw [cell_of_row w g (o + j) cur e (0, 0) hh]
      rw [← hc, List.getElem?_take] at hu
      split at hu
      · rw [List.getElem?_drop] at hu; simpa using hu
      · cases hu

theorem wpList_append_view {w : World} {ops : Array Oper} {rest : List Oper} {o : Oper} {a : Act} {Q : Exit → Act → World → Prop} (hgd : o.guard = none) (s y : Operand) (t e k by_ : Nat) (z : Value) (i : TypeInfo)
    (ho : o.op = .call { callee := .builtin .append, args := #[s, y], argTypes := #[t, t] })
    (ht : Try.prog.underlying t = some (.slice e)) (hi : Try.prog.info? e = some i) (hz : i.zero = some z) (hk : i.size = k) (hb : i.bytes = by_) (hzs : z.cells.size = k)
    (B : Nat) (v x : Value) (n m : Nat) (cs news : List Value) (hsv : a.eval s = v) (hyv : a.eval y = x) (hv : View w B e k v n cs) (hs : Src Try.prog k t x m news w) (h63 : n + m ≤ maxLen) (hby : (n + m) * by_ ≤ 140737488355328) (hB : B ≤ w.heap.size)
    (h : ∀ v' w', View w' B e k v' (n + m) (cs ++ news) → Grew w w' v B → Lies w v v' →
      wpList Try.prog ops Q rest (a.put o.dst v') w') : wpList Try.prog ops Q (o :: rest) a w := by
  refine wpList_plain hgd fun K hK => ?_
  obtain ⟨v', w', hr, h2, h3, h4⟩ := run_append_view (w := w) t o.type e k by_ z i ht hi hz hk hb hzs B v x n m cs news hv hs h63 hby hB
  unfold Oper.wp
  simp [execOp, ho, resolve, invoke, builtin, hsv, hyv, hr, Result.andThen]
  exact hK _ _ (h v' w' h2 h3 h4)
/-- The same as a step of a region that draws. -/
theorem step_append_view {w : World} {ops : Array Oper} {o : Oper} {a : Act} {K : Act → World → Prop} {Q : Exit → Act → World → Prop} {E : Prop} (hgd : o.guard = none) (s y : Operand) (t e k by_ : Nat) (z : Value) (i : TypeInfo)
    (ho : o.op = .call { callee := .builtin .append, args := #[s, y], argTypes := #[t, t] })
    (ht : Try.prog.underlying t = some (.slice e)) (hi : Try.prog.info? e = some i) (hz : i.zero = some z) (hk : i.size = k) (hb : i.bytes = by_) (hzs : z.cells.size = k)
    (B : Nat) (v x : Value) (n m : Nat) (cs news : List Value) (hsv : a.eval s = v) (hyv : a.eval y = x) (hv : View w B e k v n cs) (hs : Src Try.prog k t x m news w) (h63 : n + m ≤ maxLen) (hby : (n + m) * by_ ≤ 140737488355328) (hB : B ≤ w.heap.size)
    (h : ∀ v' w', View w' B e k v' (n + m) (cs ++ news) → Grew w w' v B → Lies w v v' → K (a.put o.dst v') w') :
    if Region.wanted o (yielded ops a.tmps) = true then Oper.wp Try.prog o a w K Q else E := by
  have hw : Region.wanted o (yielded ops a.tmps) = true := by simp [Region.wanted, hgd]
  rw [if_pos hw]
  obtain ⟨v', w', hr, g2, g3, g4⟩ := run_append_view (w := w) t o.type e k by_ z i ht hi hz hk hb hzs B v x n m cs news hv hs h63 hby hB
  unfold Oper.wp
  simp [execOp, ho, resolve, invoke, builtin, hsv, hyv, hr, Result.andThen]
  exact h v' w' g2 g3 g4

theorem View.tail {w : World} {B e k g o n cap : Nat} {c cs : List Value} (h : View w B e k (.slice (some ⟨g, o, none⟩) (n + 1) cap) (n + 1) (c ++ cs)) (hc : c.length = k) :
    (cap = 1 → n = 0 ∧ cs = [] ∧ View w B e k (.slice (some ⟨g, o, none⟩) 0 0) 0 []) ∧ (cap ≠ 1 → View w B e k (.slice (some ⟨g, o + k, none⟩) n (cap - 1)) n cs) := by
  have h1 := h.1
  have h2 := h.2.1
  rcases h.2.2 with ⟨ao, _, h0, _⟩ | ⟨g', o', cap', cur, hv, hb, hh, hn, hm, hsz, ht⟩
  · omega
  · simp only [Value.slice.injEq, Option.some.injEq, Addr.mk.injEq] at hv
    obtain ⟨⟨rfl, rfl, _⟩, _, rfl⟩ := hv
    have hcs : cs.length = n * k := by
      have := h1
      rw [List.length_append, hc, Nat.add_mul] at this
      omega
    refine ⟨fun e1 => ?_, fun e1 => ?_⟩
    · have hn0 : n = 0 := by omega
      subst hn0
      exact ⟨rfl, List.eq_nil_of_length_eq_zero (by simpa using hcs), View.nil _ _ _ _ _ (fun a ha => by cases ha; exact ⟨hb, lt_of_block hh⟩)⟩
    · refine ⟨hcs, fun u hu => h2 u (by simp [hu]), .inr ⟨g, o + k, cap - 1, cur, rfl, hb, hh, by omega, by omega, ?_, ?_⟩⟩
      · have : cap * k = (cap - 1) * k + k := by
          obtain ⟨d, rfl⟩ : ∃ d, cap = d + 1 := ⟨cap - 1, by omega⟩
          simp [Nat.add_mul]
        omega
      · have e2 : (n + 1) * k = k + n * k := by rw [Nat.add_mul]; omega
        rw [e2, List.take_add, List.drop_drop] at ht
        have hl : ((cur.toList.drop o).take k).length = c.length := by
          rw [hc, List.length_take]
          have : k ≤ (cur.toList.drop o).length := by
            have : k ≤ cap * k := Nat.le_mul_of_pos_left k (by omega)
            simp; omega
          omega
        exact (List.append_inj ht hl).2
end Go.Proofs.Ytedgeoigapilnaa
