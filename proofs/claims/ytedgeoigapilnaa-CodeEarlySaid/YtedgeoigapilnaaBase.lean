/- What these proofs say of memory: 'Turns D w w'': w' is w with new blocks, and writes to the blocks of which D holds alone; a block whose cells are a list. -/
import Derived.Test.YtedgeoigapilnaaRows
import Derived.WalkKit
import Derived.WalkLawsBesides
import Derived.Lib.Hide
import Derived.Lib.SliceRun
import Derived.Laws.AppendOwnNone
namespace Go.Proofs.Ytedgeoigapilnaa
open Go.RowKit

structure Turns (D : Nat → Prop) (w w' : World) : Prop where
  os : w'.os = w.os
  tape : w'.tape = w.tape
  output : w'.output = w.output
  size : w.heap.size ≤ w'.heap.size
  block : ∀ k, k < w.heap.size → ¬ D k → w'.heap[k]? = w.heap[k]?

theorem Turns.refl (D : Nat → Prop) (w : World) : Turns D w w := ⟨rfl, rfl, rfl, Nat.le_refl _, fun _ _ _ => rfl⟩
theorem Turns.trans {D D' E : Nat → Prop} {a b c : World} (h : Turns D a b) (h' : Turns D' b c) (hD : ∀ j, D j → j < a.heap.size → E j) (hD' : ∀ j, D' j → j < a.heap.size → E j) : Turns E a c :=
  ⟨h'.os.trans h.os, h'.tape.trans h.tape, h'.output.trans h.output, Nat.le_trans h.size h'.size,
    fun k hk hE => (h'.block k (Nat.lt_of_lt_of_le hk h.size) (fun x => hE (hD' k x hk))).trans (h.block k hk (fun x => hE (hD k x hk)))⟩
theorem Turns.then {D : Nat → Prop} {a b c : World} (h : Turns D a b) (h' : Turns D b c) : Turns D a c := h.trans h' (fun _ x _ => x) (fun _ x _ => x)
theorem Turns.mono {D E : Nat → Prop} {a b : World} (h : Turns D a b) (hD : ∀ j, D j → j < a.heap.size → E j) : Turns E a b :=
  ⟨h.os, h.tape, h.output, h.size, fun k hk hE => h.block k hk (fun x => hE (hD k x hk))⟩
theorem Turns.drew {D : Nat → Prop} {a w : World} (h : Turns D a w) : Turns D a w.drew := ⟨h.os, h.tape, h.output, h.size, h.block⟩
theorem Turns.drewN {D : Nat → Prop} {a w : World} (h : Turns D a w) (q : Nat) : Turns D a (w.drewN q) := ⟨h.os, h.tape, h.output, h.size, h.block⟩
theorem Turns.alloc {D : Nat → Prop} {a w : World} (h : Turns D a w) (o : Obj) : Turns D a (w.alloc o) :=
  ⟨h.os, h.tape, h.output, Nat.le_trans h.size (by simp), fun k hk hD => (Below.heap_alloc _ _ _ (Nat.lt_of_lt_of_le hk h.size)).trans (h.block k hk hD)⟩
theorem Turns.setCell {D : Nat → Prop} {a w : World} (h : Turns D a w) {p : Addr} (hp : D p.block ∨ a.heap.size ≤ p.block) (u : Value) : Turns D a (w.setCell p u) :=
  ⟨h.os, h.tape, h.output, by simpa [World.setCell] using h.size, fun k hk hD => (Below.heap_setCell _ _ _ _ (fun e => by subst e; rcases hp with hp | hp; exact hD hp; omega)).trans (h.block k hk hD)⟩
theorem Turns.setCells {D : Nat → Prop} {a : World} {g : Nat} (hp : D g ∨ a.heap.size ≤ g) : ∀ (vs : List Value) (o : Nat) (_w : World), Turns D a _w → Turns D a (_w.setCells g o vs)
  | [], _, _, h => h
  | v :: r, o, _, h => Turns.setCells hp r (o + 1) _ (h.setCell (p := ⟨g, o, none⟩) hp v)
theorem Turns.grown {D : Nat → Prop} {a w w' : World} {row : Option Nat} (h : Turns D a w) (hg : w.grownBy w' row) (hr : ∀ k, row = some k → D k ∨ a.heap.size ≤ k) : Turns D a w' :=
  ⟨hg.os.trans h.os, hg.tape.trans h.tape, hg.output.trans h.output, Nat.le_trans h.size hg.size,
    fun k hk hD => (hg.block k (Nat.lt_of_lt_of_le hk h.size) (fun e => by rcases hr k e.symm with x | x; exact hD x; omega)).trans (h.block k hk hD)⟩
theorem Turns.toBelow {D : Nat → Prop} {a w : World} {B : Nat} (h : Turns D a w) (hB : B ≤ a.heap.size) (hD : ∀ j, j < B → ¬ D j) : Below B a w :=
  ⟨h.os, h.tape, h.output, h.size, fun k hk => h.block k (Nat.lt_of_lt_of_le hk hB) (hD k hk)⟩
theorem Turns.ofBelow {a w : World} {B : Nat} (h : Below B a w) : Turns (fun j => B ≤ j) a w :=
  ⟨h.os, h.tape, h.output, h.size, fun k _ hD => h.block k (by omega)⟩
theorem Turns.heap {D : Nat → Prop} {w w' : World} (h : Turns D w w') {b : Nat} {o : Obj} (hb : w.heap[b]? = some o) (hD : ¬ D b) : w'.heap[b]? = some o :=
  (h.block b (lt_of_block hb) hD).trans hb
theorem Turns.cell {D : Nat → Prop} {w w' : World} (h : Turns D w w') {a : Addr} {v : Value} (hb : w.cell? a = some v) (hD : ¬ D a.block) : w'.cell? a = some v :=
  (World.cell?_of_block (w := w) (h.block a.block (World.block_lt_of_cell? w a hb) hD)).trans hb
theorem Turns.owns {D : Nat → Prop} {w w' : World} (h : Turns D w w') {B e size : Nat} {v : Value} {n : Nat} {xs : List Value} (ho : w.ownsRow B e size v n xs) (hD : ∀ g, v.ownBlock = some g → ¬ D g) : w'.ownsRow B e size v n xs := by
  obtain ⟨h1, h2⟩ := ho
  refine ⟨h1, ?_⟩
  rcases h2 with h2 | ⟨g, cap, cur, hv, hg, hh, r⟩
  · exact Or.inl h2
  · exact Or.inr ⟨g, cap, cur, hv, hg, h.heap hh (hD g (by rw [hv]; rfl)), r⟩
theorem drewN_turns (w : World) (q : Nat) : Turns (fun _ => False) w (w.drewN q) := (Turns.refl _ w).drewN q
theorem heap_new {w : World} {o : Obj} {k : Nat} (h : k = w.heap.size) : (w.alloc o).heap[k]? = some o := by subst h; exact heap_alloc_new w o
theorem heap_old {w : World} {o o' : Obj} {k : Nat} (h : w.heap[k]? = some o') : (w.alloc o).heap[k]? = some o' := (Below.heap_alloc _ _ _ (lt_of_block h)).trans h
theorem heap_else {w : World} {b k : Nat} {o : Obj} (j : Nat) (v : Value) (h : w.heap[k]? = some o) (hne : k ≠ b) : (w.setCell ⟨b, j, none⟩ v).heap[k]? = some o := (Below.heap_setCell _ _ _ _ hne).trans h
theorem ownsRow_base {w : World} {B B' e size : Nat} {v : Value} {n : Nat} {xs : List Value} (h : w.ownsRow B e size v n xs) (hB : B' ≤ B) : w.ownsRow B' e size v n xs := by
  obtain ⟨h1, h2⟩ := h
  refine ⟨h1, ?_⟩
  rcases h2 with h2 | ⟨g, cap, cur, hv, hg, r⟩
  · exact Or.inl h2
  · exact Or.inr ⟨g, cap, cur, hv, Nat.le_trans hB hg, r⟩

/-- Block b holds the cells xs. -/
def Row (w : World) (b : Nat) (t : TypeId) (xs : List Value) : Prop := w.heap[b]? = some (.cells xs.toArray t (0, 0))
theorem Row.lt {w : World} {b : Nat} {t : TypeId} {xs : List Value} (h : Row w b t xs) : b < w.heap.size := lt_of_block h
theorem Row.cell {w : World} {b : Nat} {t : TypeId} {xs : List Value} (h : Row w b t xs) (j : Nat) (v : Value) (hj : xs[j]? = some v) : w.cell? ⟨b, j, none⟩ = some v := by
  unfold Row at h; simp [World.cell?, h, hj]
theorem Row.free {w : World} {b : Nat} {t : TypeId} {xs : List Value} (h : Row w b t xs) (j : Nat) : w.frozen? ⟨b, j, none⟩ = false := by unfold Row at h; simp [World.frozen?, h]
theorem Row.set {w : World} {b : Nat} {t : TypeId} {xs : List Value} (h : Row w b t xs) (j : Nat) (v : Value) : Row (w.setCell ⟨b, j, none⟩ v) b t (xs.set j v) := by
  have hlt := h.lt
  unfold Row at h ⊢
  have h' : w.heap[b] = .cells xs.toArray t (0, 0) := by simpa [Array.getElem?_eq_getElem hlt] using h
  show (w.heap.modify b _)[b]? = _
  rw [Array.getElem?_eq_getElem (by simpa using hlt), Array.getElem_modify_self, h']
  simp
theorem Row.other {w : World} {b b' : Nat} {t : TypeId} {xs : List Value} (h : Row w b t xs) (j : Nat) (v : Value) (hne : b ≠ b') : Row (w.setCell ⟨b', j, none⟩ v) b t xs := heap_else j v h hne
theorem Row.alloc {w : World} {b : Nat} {t : TypeId} {xs : List Value} (h : Row w b t xs) (o : Obj) : Row (w.alloc o) b t xs := heap_old h
theorem Row.drew {w : World} {b : Nat} {t : TypeId} {xs : List Value} (h : Row w b t xs) : Row w.drew b t xs := h
theorem Row.later {w w' : World} {b : Nat} {t : TypeId} {xs : List Value} {D : Nat → Prop} (h : Row w b t xs) (ht : Turns D w w') (hD : ¬ D b) : Row w' b t xs := ht.heap h hD
theorem Row.setCells_other {b b' : Nat} {t : TypeId} {xs : List Value} (hne : b ≠ b') : ∀ (vs : List Value) (o : Nat) (_w : World), Row _w b t xs → Row (_w.setCells b' o vs) b t xs
  | [], _, _, h => h
  | v :: r, o, _, h => Row.setCells_other hne r (o + 1) _ (h.other o v hne)
theorem Row.setCells_at {b : Nat} {t : TypeId} : ∀ (vs pre post : List Value) (w : World), post.length = vs.length → Row w b t (pre ++ post) → Row (w.setCells b pre.length vs) b t (pre ++ vs)
  | [], pre, post, w, hl, h => by
    have : post = [] := List.eq_nil_of_length_eq_zero hl
    subst this; exact h
  | v :: r, pre, [], w, hl, h => by simp at hl
  | v :: r, pre, p :: post, w, hl, h => by
    have h1 := h.set pre.length v
    have e : (pre ++ p :: post).set pre.length v = (pre ++ [v]) ++ post := by simp
    rw [e] at h1
    have h2 := Row.setCells_at r (pre ++ [v]) post (w.setCell ⟨b, pre.length, none⟩ v) (by simpa using hl) h1
    simp only [List.length_append, List.length_cons, List.length_nil, Nat.zero_add, List.append_assoc, List.cons_append, List.nil_append] at h2
    exact h2
theorem Row.setCells {b : Nat} {t : TypeId} {w : World} {xs : List Value} (h : Row w b t xs) (vs : List Value) (hl : xs.length = vs.length) : Row (w.setCells b 0 vs) b t vs := Row.setCells_at vs [] xs w hl h

/-- A function that has a body is entered. -/
theorem enters {f : FuncId} {fn : Func} {c : Code} (hf : Try.prog.funcs[f]? = some fn) (hname : (fn.name == "runtime.NumGoroutine") = false) (hb : fn.body = some c) :
    ∀ args w, (callFunc f args).run Try.prog w = .ok (.enter f args) w := by
  intro args w
  have h1 : fn.name ≠ "runtime.NumGoroutine" := by simpa using hname
  simp [callFunc, hf, h1, hb, mark]
end Go.Proofs.Ytedgeoigapilnaa
