/- code: the reference's kinds by contract. Printed by wip/tools/kinds_gen.py. -/
import Derived.Test.YtedgeoigapilnaaMay
namespace Go.Proofs.Ytedgeoigapilnaa
open Go.RowKit

/-- The reference's number of a kind. -/
def refK : Nat → Nat | 0 => 0 | 1 => 6 | 2 => 1 | 3 => 2 | 4 => 3 | 5 => 5 | _ => 4
def r3 (x : Nat × Nat × Nat) : List Value := [.int .i64 (refK x.1 : Int), .int .i64 (refK x.2.1 : Int), .int .i64 (refK x.2.2 : Int)]
/-- The world with the first rows of the table. -/
def wt (w : World) : Nat → World
  | 0 => w
  | k + 1 => (wt w k).alloc (.cells (r3 (tabK.getD k (0, 0, 0))).toArray 3)
theorem wt_turns (w : World) (j : Nat) : ∀ d, Turns (fun _ => False) (wt w j) (wt w (j + d))
  | 0 => Turns.refl _ _
  | d + 1 => (wt_turns w j d).alloc _
theorem wt_row (w : World) (k j : Nat) (h : k < j) : Row (wt w j) (wt w k).heap.size 3 (r3 (tabK.getD k (0, 0, 0))) := by
  have r : Row (wt w (k + 1)) (wt w k).heap.size 3 (r3 (tabK.getD k (0, 0, 0))) := heap_new rfl
  have t := wt_turns w (k + 1) (j - (k + 1))
  rw [show k + 1 + (j - (k + 1)) = j from by omega] at t
  exact r.later t (fun x => x)
def tabS (w : World) : List Value := (List.range 18).map fun k => .slice (some ⟨(wt w k).heap.size, 0, none⟩) 3 3
theorem tabS_at (w : World) (k : Nat) (h : k < 18) : (tabS w)[k]? = some (.slice (some ⟨(wt w k).heap.size, 0, none⟩) 3 3) := by
  unfold tabS
  rw [List.getElem?_map, List.getElem?_range h]
  rfl

/-- What kinds answers. -/
def KindsPost (op : Int) (w : World) (e : Ending) (w' : World) : Prop :=
  Turns (fun _ => False) w w' ∧ if 0 ≤ op ∧ op ≤ 17 then ∃ b, e = .returned (.slice (some ⟨b, 0, none⟩) 3 3) ∧ Row w' b 3 (r3 (tabK.getD op.toNat (0, 0, 0))) else e = .returned (.slice none 0 0)

theorem wp_at {c : Code} {Q : Exit → Act → World → Prop} {a : Act} (a' : Act) {w : World} (e : a = a') (h : c.wp Try.prog Q a' w) : c.wp Try.prog Q a w := e ▸ h

set_option maxHeartbeats 4000000 in
set_option maxRecDepth 100000 in
theorem kinds_any (op : Int) (w : World) : Calls Try.prog 26 #[.int .i64 op] w (KindsPost op w) := by
  go_enter Try.func26, Try.ntmps26
  refine wp_seq ?_
  refine wp_region_lit ?_
  refine wpList_same (.slice none 0 0) rfl (by kernel_rfl) ?_
  refine wpList_nil ?_
  refine wp_seq (Q := bodyPost Try.prog Try.f26 _) ?_
  refine wp_region_lit ?_
  refine wpList_val (w := wt w 0) (w' := wt w 1) (.slice (some ⟨(wt w 0).heap.size, 0, none⟩) 3 3) rfl (by kernel_rfl) ?_
  refine wpList_val (w := wt w 1) (w' := wt w 2) (.slice (some ⟨(wt w 1).heap.size, 0, none⟩) 3 3) rfl (by kernel_rfl) ?_
  refine wpList_val (w := wt w 2) (w' := wt w 3) (.slice (some ⟨(wt w 2).heap.size, 0, none⟩) 3 3) rfl (by kernel_rfl) ?_
  refine wpList_val (w := wt w 3) (w' := wt w 4) (.slice (some ⟨(wt w 3).heap.size, 0, none⟩) 3 3) rfl (by kernel_rfl) ?_
  refine wpList_val (w := wt w 4) (w' := wt w 5) (.slice (some ⟨(wt w 4).heap.size, 0, none⟩) 3 3) rfl (by kernel_rfl) ?_
  refine wpList_val (w := wt w 5) (w' := wt w 6) (.slice (some ⟨(wt w 5).heap.size, 0, none⟩) 3 3) rfl (by kernel_rfl) ?_
  refine wpList_val (w := wt w 6) (w' := wt w 7) (.slice (some ⟨(wt w 6).heap.size, 0, none⟩) 3 3) rfl (by kernel_rfl) ?_
  refine wpList_val (w := wt w 7) (w' := wt w 8) (.slice (some ⟨(wt w 7).heap.size, 0, none⟩) 3 3) rfl (by kernel_rfl) ?_
  refine wpList_val (w := wt w 8) (w' := wt w 9) (.slice (some ⟨(wt w 8).heap.size, 0, none⟩) 3 3) rfl (by kernel_rfl) ?_
  refine wpList_val (w := wt w 9) (w' := wt w 10) (.slice (some ⟨(wt w 9).heap.size, 0, none⟩) 3 3) rfl (by kernel_rfl) ?_
  refine wpList_val (w := wt w 10) (w' := wt w 11) (.slice (some ⟨(wt w 10).heap.size, 0, none⟩) 3 3) rfl (by kernel_rfl) ?_
  refine wpList_val (w := wt w 11) (w' := wt w 12) (.slice (some ⟨(wt w 11).heap.size, 0, none⟩) 3 3) rfl (by kernel_rfl) ?_
  refine wpList_val (w := wt w 12) (w' := wt w 13) (.slice (some ⟨(wt w 12).heap.size, 0, none⟩) 3 3) rfl (by kernel_rfl) ?_
  refine wpList_val (w := wt w 13) (w' := wt w 14) (.slice (some ⟨(wt w 13).heap.size, 0, none⟩) 3 3) rfl (by kernel_rfl) ?_
  refine wpList_val (w := wt w 14) (w' := wt w 15) (.slice (some ⟨(wt w 14).heap.size, 0, none⟩) 3 3) rfl (by kernel_rfl) ?_
  refine wpList_val (w := wt w 15) (w' := wt w 16) (.slice (some ⟨(wt w 15).heap.size, 0, none⟩) 3 3) rfl (by kernel_rfl) ?_
  refine wpList_val (w := wt w 16) (w' := wt w 17) (.slice (some ⟨(wt w 16).heap.size, 0, none⟩) 3 3) rfl (by kernel_rfl) ?_
  refine wpList_val (w := wt w 17) (w' := wt w 18) (.slice (some ⟨(wt w 17).heap.size, 0, none⟩) 3 3) rfl (by kernel_rfl) ?_
  refine wpList_val (w := wt w 18) (w' := (wt w 18).alloc (.cells (tabS w).toArray 42)) (.slice (some ⟨(wt w 18).heap.size, 0, none⟩) 18 18) rfl (by kernel_rfl) ?_
  refine wpList_same (.slice (some ⟨(wt w 18).heap.size, 0, none⟩) 18 18) rfl (by kernel_rfl) ?_
  refine wpList_nil ?_
  show Code.wp _ _ _ _ _
  refine wp_at { tmps := #[.int .i64 op, undef, .slice none 0 0, (.slice (some ⟨(wt w 18).heap.size, 0, none⟩) 18 18), (.slice (some ⟨(wt w 0).heap.size, 0, none⟩) 3 3), (.slice (some ⟨(wt w 1).heap.size, 0, none⟩) 3 3), (.slice (some ⟨(wt w 2).heap.size, 0, none⟩) 3 3), (.slice (some ⟨(wt w 3).heap.size, 0, none⟩) 3 3), (.slice (some ⟨(wt w 4).heap.size, 0, none⟩) 3 3), (.slice (some ⟨(wt w 5).heap.size, 0, none⟩) 3 3), (.slice (some ⟨(wt w 6).heap.size, 0, none⟩) 3 3), (.slice (some ⟨(wt w 7).heap.size, 0, none⟩) 3 3), (.slice (some ⟨(wt w 8).heap.size, 0, none⟩) 3 3), (.slice (some ⟨(wt w 9).heap.size, 0, none⟩) 3 3), (.slice (some ⟨(wt w 10).heap.size, 0, none⟩) 3 3), (.slice (some ⟨(wt w 11).heap.size, 0, none⟩) 3 3), (.slice (some ⟨(wt w 12).heap.size, 0, none⟩) 3 3), (.slice (some ⟨(wt w 13).heap.size, 0, none⟩) 3 3), (.slice (some ⟨(wt w 14).heap.size, 0, none⟩) 3 3), (.slice (some ⟨(wt w 15).heap.size, 0, none⟩) 3 3), (.slice (some ⟨(wt w 16).heap.size, 0, none⟩) 3 3), (.slice (some ⟨(wt w 17).heap.size, 0, none⟩) 3 3), (.slice (some ⟨(wt w 18).heap.size, 0, none⟩) 18 18), undef, undef, undef, undef, undef, undef, undef, undef, undef, undef, undef, undef], defers := [] } (by kernel_rfl) ?_
  have T : Turns (fun _ => False) w ((wt w 18).alloc (.cells (tabS w).toArray 42)) := (wt_turns w 0 18).alloc _
  have RS : Row ((wt w 18).alloc (.cells (tabS w).toArray 42)) (wt w 18).heap.size 42 (tabS w) := heap_new rfl
  have rows : ∀ k, k < 18 → Row ((wt w 18).alloc (.cells (tabS w).toArray 42)) (wt w k).heap.size 3 (r3 (tabK.getD k (0, 0, 0))) := fun k hk => (wt_row w k 18 hk).alloc _
  generalize (wt w 18).alloc (.cells (tabS w).toArray 42) = w9 at T RS rows ⊢
  by_cases h0 : op < 0
  · have d0 : decide (op < 0) = true := by simpa using h0
    have HP := Lib.hid (show ¬ (0 ≤ op ∧ op ≤ 17) by omega)
    clear h0 rows
    go_wp2_with fail
    go_ret
    refine ⟨T, ?_⟩
    rw [if_neg HP.out]
    rfl
  have d0 : decide (op < 0) = false := by simpa using h0
  by_cases h1 : 18 ≤ op
  · have d1 : decide (18 ≤ op) = true := by simpa using h1
    have HP := Lib.hid (show ¬ (0 ≤ op ∧ op ≤ 17) by omega)
    clear h0 h1 rows
    go_wp2_with fail
    go_ret
    refine ⟨T, ?_⟩
    rw [if_neg HP.out]
    rfl
  obtain ⟨k, rfl⟩ : ∃ k : Nat, op = (k : Int) := ⟨op.toNat, by omega⟩
  have hk : k < 18 := by omega
  have d1 : decide (18 ≤ (k : Int)) = false := by simpa using h1
  have hc := RS.cell k _ (tabS_at w k hk)
  have HR := Lib.hid (rows k hk)
  generalize (wt w k).heap.size = bk at hc HR
  clear rows h0 h1
  go_wp2_with fail
  go_ret
  refine ⟨T, ?_⟩
  rw [if_pos (by omega), Int.toNat_natCast]
  exact ⟨bk, rfl, HR.out⟩
end Go.Proofs.Ytedgeoigapilnaa
