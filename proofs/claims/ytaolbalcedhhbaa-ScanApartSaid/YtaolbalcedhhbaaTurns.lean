/- 'Turns D w w'': w' is w with new blocks, and writes to the blocks of which D holds alone. -/
import Derived.Test.YtaolbalcedhhbaaRows
import Derived.WalkKit
import Derived.WalkLawsBesides
import Derived.Lib.Hide
namespace Go.Proofs.Ytaolbalcedhhbaa
open Go.RowKit

structure Turns (D : Nat → Prop) (w w' : World) : Prop where
  os : w'.os = w.os
  tape : w'.tape = w.tape
  output : w'.output = w.output
  size : w.heap.size ≤ w'.heap.size
  block : ∀ k, k < w.heap.size → ¬ D k → w'.heap[k]? = w.heap[k]?

theorem Turns.refl (D : Nat → Prop) (w : World) : Turns D w w := ⟨rfl, rfl, rfl, Nat.le_refl _, fun _ _ _ => rfl⟩
theorem Turns.trans {D D' E : Nat → Prop} {a b c : World} (h : Turns D a b) (h' : Turns D' b c) (hD : ∀ j, D j → j < a.heap.size → E j) (hD' : ∀ j, D' j → j < a.heap.size → E j) : Turns E a c :=
  ⟨h'.os.trans h.os, h'.tape.trans h.tape, h'.output.trans h.output, Nat.le_trans h.size h'.size,
    fun k hk hE => (h'.block k (Nat.lt_of_lt_of_le hk h.size) (fun x => hE (hD' k x hk))).trans (h.block k hk (fun x => hE (hD k x hk)))⟩
theorem Turns.mono {D E : Nat → Prop} {a b : World} (h : Turns D a b) (hD : ∀ j, D j → j < a.heap.size → E j) : Turns E a b :=
  ⟨h.os, h.tape, h.output, h.size, fun k hk hE => h.block k hk (fun x => hE (hD k x hk))⟩
theorem Turns.drew {D : Nat → Prop} {a w : World} (h : Turns D a w) : Turns D a w.drew := ⟨h.os, h.tape, h.output, h.size, h.block⟩
theorem Turns.alloc {D : Nat → Prop} {a w : World} (h : Turns D a w) (o : Obj) : Turns D a (w.alloc o) :=
  ⟨h.os, h.tape, h.output, Nat.le_trans h.size (by simp), fun k hk hD => (Below.heap_alloc _ _ _ (Nat.lt_of_lt_of_le hk h.size)).trans (h.block k hk hD)⟩
theorem Turns.setCell {D : Nat → Prop} {a w : World} (h : Turns D a w) {p : Addr} (hp : D p.block ∨ a.heap.size ≤ p.block) (u : Value) : Turns D a (w.setCell p u) :=
  ⟨h.os, h.tape, h.output, by simpa [World.setCell] using h.size, fun k hk hD => (Below.heap_setCell _ _ _ _ (fun e => by subst e; rcases hp with hp | hp; exact hD hp; omega)).trans (h.block k hk hD)⟩
theorem Turns.grown {D : Nat → Prop} {a w w' : World} {row : Option Nat} (h : Turns D a w) (hg : w.grownBy w' row) (hr : ∀ k, row = some k → D k ∨ a.heap.size ≤ k) : Turns D a w' :=
  ⟨hg.os.trans h.os, hg.tape.trans h.tape, hg.output.trans h.output, Nat.le_trans h.size hg.size,
    fun k hk hD => (hg.block k (Nat.lt_of_lt_of_le hk h.size) (fun e => by rcases hr k e.symm with x | x; exact hD x; omega)).trans (h.block k hk hD)⟩
theorem Turns.below {D : Nat → Prop} {a w w' : World} {B : Nat} (h : Turns D a w) (hb : Below B w w') (hB : a.heap.size ≤ B) : Turns D a w' :=
  ⟨hb.os.trans h.os, hb.tape.trans h.tape, hb.output.trans h.output, Nat.le_trans h.size hb.size, fun k hk hD => (hb.block k (Nat.lt_of_lt_of_le hk hB)).trans (h.block k hk hD)⟩
theorem Turns.toBelow {D : Nat → Prop} {a w : World} {B : Nat} (h : Turns D a w) (hB : B ≤ a.heap.size) (hD : ∀ j, j < B → ¬ D j) : Below B a w :=
  ⟨h.os, h.tape, h.output, h.size, fun k hk => h.block k (Nat.lt_of_lt_of_le hk hB) (hD k hk)⟩
theorem Turns.ofBelow {a w : World} {B : Nat} (h : Below B a w) : Turns (fun j => B ≤ j) a w :=
  ⟨h.os, h.tape, h.output, h.size, fun k _ hD => h.block k (by omega)⟩
theorem Turns.heap {D : Nat → Prop} {w w' : World} (h : Turns D w w') {b : Nat} {o : Obj} (hb : w.heap[b]? = some o) (hD : ¬ D b) : w'.heap[b]? = some o :=
  (h.block b (lt_of_block hb) hD).trans hb
theorem Turns.cell {D : Nat → Prop} {w w' : World} (h : Turns D w w') {a : Addr} {v : Value} (hb : w.cell? a = some v) (hD : ¬ D a.block) : w'.cell? a = some v :=
  (World.cell?_of_block (w := w) (h.block a.block (World.block_lt_of_cell? w a hb) hD)).trans hb
theorem Turns.owns {D : Nat → Prop} {w w' : World} (h : Turns D w w') {B e size : Nat} {v : Value} {n : Nat} {xs : List Value} (ho : w.ownsRow B e size v n xs) (hD : ∀ g, v.ownBlock = some g → ¬ D g) : w'.ownsRow B e size v n xs := by
  obtain ⟨h1, h2⟩ := ho
  refine ⟨h1, ?_⟩
  rcases h2 with h2 | ⟨g, cap, cur, hv, hg, hh, r⟩
  · exact Or.inl h2
  · exact Or.inr ⟨g, cap, cur, hv, hg, h.heap hh (hD g (by rw [hv]; rfl)), r⟩
theorem heap_new {w : World} {o : Obj} {k : Nat} (h : k = w.heap.size) : (w.alloc o).heap[k]? = some o := by subst h; exact heap_alloc_new w o
theorem heap_old {w : World} {o o' : Obj} {k : Nat} (h : w.heap[k]? = some o') : (w.alloc o).heap[k]? = some o' := (Below.heap_alloc _ _ _ (lt_of_block h)).trans h
theorem ownsRow_base {w : World} {B B' e size : Nat} {v : Value} {n : Nat} {xs : List Value} (h : w.ownsRow B e size v n xs) (hB : B' ≤ B) : w.ownsRow B' e size v n xs := by
  obtain ⟨h1, h2⟩ := h
  refine ⟨h1, ?_⟩
  rcases h2 with h2 | ⟨g, cap, cur, hv, hg, r⟩
  · exact Or.inl h2
  · exact Or.inr ⟨g, cap, cur, hv, Nat.le_trans hB hg, r⟩
end Go.Proofs.Ytaolbalcedhhbaa
