/- code: parts by contract: the table stays folded. -/
import Derived.Test.YtedgeoigapilnaaFits
import Derived.Deep.MidRow
namespace Go.Proofs.Ytedgeoigapilnaa
open Go.RowKit

/-- The kinds of the parts of each instruction. -/
def tabK : List (Nat × Nat × Nat) := [(0, 0, 0), (2, 1, 0), (2, 2, 1), (2, 1, 2), (2, 2, 0), (2, 0, 0), (2, 3, 0), (3, 2, 0), (4, 2, 0), (0, 0, 0), (0, 1, 1), (6, 0, 0), (6, 0, 0), (2, 2, 0), (5, 0, 0), (2, 2, 5), (1, 1, 0), (5, 0, 0)]
def k3 (x : Nat × Nat × Nat) : List Value := [.int .i64 (x.1 : Int), .int .i64 (x.2.1 : Int), .int .i64 (x.2.2 : Int)]
def tabL : List Value := tabK.flatMap k3
def tabV : Value := .agg tabL.toArray
def tab0 : List Value := List.replicate 54 (.int .i64 0)
theorem tabL_length : tabL.length = 54 := by kernel_rfl
theorem tabL_one : ∀ v ∈ tabL, v.oneCell' = true := by
  have : tabL.all (·.oneCell') = true := by kernel_rfl
  exact List.all_eq_true.1 this
theorem tab0_length : tab0.length = 54 := by kernel_rfl

theorem wpList_val {ops : Array Oper} {rest : List Oper} {o : Oper} {a : Act} {Q : Exit → Act → World → Prop} {w w' : World} (v : Value) (hgd : o.guard = none) (h : (execOp a.eval o).run Try.prog w = .ok (.value v) w')
    (hK : wpList Try.prog ops Q rest (a.put o.dst v) w') : wpList Try.prog ops Q (o :: rest) a w :=
  wpList_plain hgd fun K hK' => by unfold Oper.wp; rw [h]; exact hK' _ _ hK

theorem wpList_same {ops : Array Oper} {rest : List Oper} {o : Oper} {a : Act} {Q : Exit → Act → World → Prop} {w : World} (v : Value) (hgd : o.guard = none) (h : (execOp a.eval o).run Try.prog w = .ok (.value v) w)
    (hK : wpList Try.prog ops Q rest (a.put o.dst v) w) : wpList Try.prog ops Q (o :: rest) a w := wpList_val v hgd h hK

theorem row_there {w : World} {b t : Nat} {xs : List Value} (h : Row w b t xs) (n : Nat) (hn : n = xs.length) : w.there b 0 n := fun j hj => by
  subst hn
  have := h.cell j _ (List.getElem?_eq_getElem hj)
  exact ⟨by rw [Nat.zero_add, this]; rfl, h.free _⟩

set_option maxRecDepth 100000 in
set_option maxHeartbeats 1000000 in
theorem parts_any (w : World) : Calls Try.prog 24 #[] w fun e w' => e = .returned tabV ∧ Turns (fun _ => False) w w' := by
  have H : (Try.prog.info? 61).map (·.size) = some 54 := by kernel_rfl
  have R : Row (w.alloc (.cells tab0.toArray 61)) w.heap.size 61 tab0 := heap_new rfl
  go_enter Try.func24, Try.ntmps24
  refine wp_seq ?_
  refine wp_region_lit ?_
  refine wpList_val (w' := w.alloc (.cells tab0.toArray 61)) (.pointer (some ⟨w.heap.size, 0, none⟩)) rfl (by kernel_rfl) ?_
  refine wpList_nil ?_
  refine wp_seq (Q := bodyPost Try.prog Try.f24 _) ?_
  refine wp_region_lit ?_
  refine wpList_same (.agg (k3 (0, 0, 0)).toArray) rfl (by kernel_rfl) ?_
  refine wpList_same (.agg (k3 (2, 1, 0)).toArray) rfl (by kernel_rfl) ?_
  refine wpList_same (.agg (k3 (2, 2, 1)).toArray) rfl (by kernel_rfl) ?_
  refine wpList_same (.agg (k3 (2, 1, 2)).toArray) rfl (by kernel_rfl) ?_
  refine wpList_same (.agg (k3 (2, 2, 0)).toArray) rfl (by kernel_rfl) ?_
  refine wpList_same (.agg (k3 (2, 0, 0)).toArray) rfl (by kernel_rfl) ?_
  refine wpList_same (.agg (k3 (2, 3, 0)).toArray) rfl (by kernel_rfl) ?_
  refine wpList_same (.agg (k3 (3, 2, 0)).toArray) rfl (by kernel_rfl) ?_
  refine wpList_same (.agg (k3 (4, 2, 0)).toArray) rfl (by kernel_rfl) ?_
  refine wpList_same (.agg (k3 (0, 0, 0)).toArray) rfl (by kernel_rfl) ?_
  refine wpList_same (.agg (k3 (0, 1, 1)).toArray) rfl (by kernel_rfl) ?_
  refine wpList_same (.agg (k3 (6, 0, 0)).toArray) rfl (by kernel_rfl) ?_
  refine wpList_same (.agg (k3 (6, 0, 0)).toArray) rfl (by kernel_rfl) ?_
  refine wpList_same (.agg (k3 (2, 2, 0)).toArray) rfl (by kernel_rfl) ?_
  refine wpList_same (.agg (k3 (5, 0, 0)).toArray) rfl (by kernel_rfl) ?_
  refine wpList_same (.agg (k3 (2, 2, 5)).toArray) rfl (by kernel_rfl) ?_
  refine wpList_same (.agg (k3 (1, 1, 0)).toArray) rfl (by kernel_rfl) ?_
  refine wpList_same (.agg (k3 (5, 0, 0)).toArray) rfl (by kernel_rfl) ?_
  refine wpList_same tabV rfl (by kernel_rfl) ?_
  refine wpList_store_mid rfl 61 (.tmp 0) (.tmp 19) rfl w.heap.size 0 tabL.toArray (by kernel_rfl) (by kernel_rfl) ?_ ?_ (all_oneCell_toArray tabL_one) ?_
  · exact row_there R _ (by rw [List.size_toArray, tabL_length, tab0_length])
  · rw [H, List.size_toArray, tabL_length]
  refine wpList_nil ?_
  refine wp_ret ?_
  have R2 : Row ((w.alloc (.cells tab0.toArray 61)).setCells w.heap.size 0 tabL) w.heap.size 61 tabL := R.setCells tabL (by rw [tabL_length, tab0_length])
  exact bodyPost_ret (v := tabV) (results_cell_row Try.results24 _ _ w.heap.size 61 tabL.toArray (0, 0) _ (by kernel_rfl) R2 Try.underlying61 rfl (by rw [H, List.size_toArray, tabL_length])) rfl ⟨rfl, Turns.setCells (Or.inr (Nat.le_refl _)) _ _ _ ((Turns.refl _ _).alloc _)⟩

theorem tab_index (k : Nat) (h : k < 18) (w : World) : (Instr.index 61 tabV (.int .i64 (k : Int))).run Try.prog w = .ok (.agg (k3 (tabK.getD k (0, 0, 0))).toArray) w := by
  have hk : k = 0 ∨ k = 1 ∨ k = 2 ∨ k = 3 ∨ k = 4 ∨ k = 5 ∨ k = 6 ∨ k = 7 ∨ k = 8 ∨ k = 9 ∨ k = 10 ∨ k = 11 ∨ k = 12 ∨ k = 13 ∨ k = 14 ∨ k = 15 ∨ k = 16 ∨ k = 17 := by omega
  rcases hk with rfl | rfl | rfl | rfl | rfl | rfl | rfl | rfl | rfl | rfl | rfl | rfl | rfl | rfl | rfl | rfl | rfl | rfl <;> (refine Eq.trans ?_ rfl; kernel_rfl)
end Go.Proofs.Ytedgeoigapilnaa
