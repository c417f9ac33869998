/- code: fits by contract (a map literal, read once). -/
import Derived.Test.YtedgeoigapilnaaView
import Derived.StillTailTactics
import Derived.BigQuiet
import Derived.Deep.QuietTactic
import Derived.Deep.RegionWith
import Derived.Deep.RegionLaw
import Derived.Maps.OwnOps
import Derived.Maps.Views
namespace Go.Proofs.Ytedgeoigapilnaa
open Go.RowKit Go.Maps

/-- How many numbers may stand in a part of a kind, in the program's count of kinds. -/
def most (g f s : Int) (part : Nat) : Int := match part with | 0 => 1 | 1 => 256 | 2 => 16 | 3 => g | 4 => f | 5 => s | 6 => 32 | _ => 0
def fitB (g f s : Int) (part : Nat) (v : Int) : Bool := decide (0 ≤ v) && decide (v < most g f s part)

theorem law3 : Keyed Try.prog 3 := int_keyed Try.underlying3
theorem zero3 (w : World) : (zeroValue 3).run Try.prog w = .ok (.int .i64 0) w := by kernel_rfl
theorem key3 (k : Nat) (h : k < 100) : keyOf Try.prog 3 (.int .i64 (k : Int)) = some (.int .i64 (k : Int)) := keyOf_int_mk Try.underlying3 (WalkArith.wf_i64 (by omega))

noncomputable abbrev PE := plainElem (H := Unit) Try.prog 3
/-- The table's datum, the first n lines. -/
noncomputable def tabD (g f s : Int) : Nat → DataW Unit
  | 0 => .map []
  | k + 1 => (tabD g f s k).put (.int .i64 (k : Int)) (.lit (.int .i64 (most g f s k)))

theorem tab_isMap (g f s : Int) (n : Nat) : IsMap (tabD g f s n) := by
  induction n with
  | zero => exact ⟨_, rfl⟩
  | succ n ih => obtain ⟨es, h⟩ := ih; simp only [tabD, h]; exact ⟨_, rfl⟩
theorem tab_at (g f s : Int) (z : DataW Unit) (n k : Nat) (h : k < n) : (tabD g f s n).atKey (.int .i64 (k : Int)) z = .lit (.int .i64 (most g f s k)) := by
  induction n with
  | zero => omega
  | succ n ih =>
    simp only [tabD]
    by_cases e : k = n
    · subst e
      exact atKey_put_same (tab_isMap _ _ _ _) (by trivial) _ _
    · rw [atKey_put_other (by intro h; injection h with _ h; omega)]
      exact ih (by omega)

/-- One line of a map literal. -/
theorem wpList_insert_tab {w : World} {ops : Array Oper} {rest : List Oper} {o : Oper} {a : Act} {Q : Exit → Act → World → Prop} (hgd : o.guard = none) (m x y : Operand) (ho : o.op = Op.insert 66 m x y)
    (g f s : Int) (b n : Nat) (hm : a.eval m = .map (some b)) (hx : a.eval x = .int .i64 (n : Int)) (hy : a.eval y = .int .i64 (most g f s n)) (hwf : (Lit.int .i64 (most g f s n)).wf = true) (hn : n < 100)
    (hown : w.ownsMap Try.prog 3 PE b n (tabD g f s n))
    (h : ∀ w', w'.ownsMap Try.prog 3 PE b (n + 1) (tabD g f s (n + 1)) → w.grownBy w' (some b) → wpList Try.prog ops Q rest (a.put o.dst undef) w') :
    wpList Try.prog ops Q (o :: rest) a w := by
  refine wpList_plain hgd fun K' hK' => ?_
  obtain ⟨w', hrun, r1, r2⟩ := hown.update law3 Try.underlying66 (by unfold maxLen; omega) (key3 n hn) (plainElem_int Try.underlying3 hwf)
  unfold Oper.wp
  simp [execOp, ho, hm, hx, hy, hrun, Result.andThen]
  exact hK' _ _ (h w' r1 r2)

theorem Row.grownBy {w w' : World} {b k : Nat} {t : TypeId} {xs : List Value} (h : Row w b t xs) (hg : w.grownBy w' (some k)) (hne : b ≠ k) : Row w' b t xs :=
  h.later (D := fun j => j = k) ((Turns.refl _ _).grown hg (fun j hj => by cases hj; exact Or.inl rfl)) hne

theorem fits_any (g f s : Int) (part : Nat) (hp : part < 7) (v : Int) (w : World) (wg : (Lit.int .i64 g).wf = true) (wf : (Lit.int .i64 f).wf = true) (ws : (Lit.int .i64 s).wf = true) :
    Calls Try.prog 25 #[.agg #[.int .i64 g, .int .i64 f, .int .i64 s], .int .i64 (part : Int), .int .i64 v] w fun e w' => e = .returned (.bool (fitB g f s part v)) ∧ Turns (fun _ => False) w w' := by
  have hmm := @run_makeMap Try.prog
  go_enter Try.func25, Try.ntmps25
  have w0 : (Lit.int .i64 (most g f s 0)).wf = true := WalkArith.wf_i64 (by simp [most])
  have w1 : (Lit.int .i64 (most g f s 1)).wf = true := WalkArith.wf_i64 (by simp [most])
  have w2 : (Lit.int .i64 (most g f s 2)).wf = true := WalkArith.wf_i64 (by simp [most])
  have w6 : (Lit.int .i64 (most g f s 6)).wf = true := WalkArith.wf_i64 (by simp [most])
  have H0 : ((w.alloc (.cells #[.int .i64 g, .int .i64 f, .int .i64 s] 48)).alloc (.map #[] 0)).ownsMap Try.prog 3 PE (w.heap.size + 1) 0 (tabD g f s 0) := by
    have := World.ownsMap_made (H := Unit) (w.alloc (.cells #[.int .i64 g, .int .i64 f, .int .i64 s] 48)) Try.prog 3 PE
    rw [show (w.alloc (.cells #[.int .i64 g, .int .i64 f, .int .i64 s] 48)).heap.size = w.heap.size + 1 from by simp] at this
    exact this
  have R0 : Row ((w.alloc (.cells #[.int .i64 g, .int .i64 f, .int .i64 s] 48)).alloc (.map #[] 0)) w.heap.size 48 [.int .i64 g, .int .i64 f, .int .i64 s] := Row.alloc (heap_new rfl) _
  have T0 : Turns (fun _ => False) w ((w.alloc (.cells #[.int .i64 g, .int .i64 f, .int .i64 s] 48)).alloc (.map #[] 0)) := ((Turns.refl _ _).alloc _).alloc _
  have hne : w.heap.size ≠ w.heap.size + 1 := by omega
  go_wp2_with (first
    | (refine wpList_insert_tab rfl (.tmp 8) _ _ rfl g f s (w.heap.size + 1) 0 rfl rfl rfl w0 (by omega) H0 ?_
       intro m1 H1 G1
       have R1 := R0.grownBy G1 hne
       have T1 := T0.grown G1 (fun j hj => by cases hj; right; omega)
       have c10 := R1.cell 0 _ rfl
       have c11 := R1.cell 1 _ rfl
       have c12 := R1.cell 2 _ rfl)
    | (refine wpList_insert_tab rfl (.tmp 8) _ _ rfl g f s (w.heap.size + 1) 1 rfl rfl rfl w1 (by omega) H1 ?_
       intro m2 H2 G2
       have R2 := R1.grownBy G2 hne
       have T2 := T1.grown G2 (fun j hj => by cases hj; right; omega)
       have c20 := R2.cell 0 _ rfl
       have c21 := R2.cell 1 _ rfl
       have c22 := R2.cell 2 _ rfl)
    | (refine wpList_insert_tab rfl (.tmp 8) _ _ rfl g f s (w.heap.size + 1) 2 rfl rfl rfl w2 (by omega) H2 ?_
       intro m3 H3 G3
       have R3 := R2.grownBy G3 hne
       have T3 := T2.grown G3 (fun j hj => by cases hj; right; omega)
       have c30 := R3.cell 0 _ rfl
       have c31 := R3.cell 1 _ rfl
       have c32 := R3.cell 2 _ rfl)
    | (refine wpList_insert_tab rfl (.tmp 8) _ _ rfl g f s (w.heap.size + 1) 3 rfl rfl rfl wg (by omega) H3 ?_
       intro m4 H4 G4
       have R4 := R3.grownBy G4 hne
       have T4 := T3.grown G4 (fun j hj => by cases hj; right; omega)
       have c40 := R4.cell 0 _ rfl
       have c41 := R4.cell 1 _ rfl
       have c42 := R4.cell 2 _ rfl)
    | (refine wpList_insert_tab rfl (.tmp 8) _ _ rfl g f s (w.heap.size + 1) 4 rfl rfl rfl wf (by omega) H4 ?_
       intro m5 H5 G5
       have R5 := R4.grownBy G5 hne
       have T5 := T4.grown G5 (fun j hj => by cases hj; right; omega)
       have c50 := R5.cell 0 _ rfl
       have c51 := R5.cell 1 _ rfl
       have c52 := R5.cell 2 _ rfl)
    | (refine wpList_insert_tab rfl (.tmp 8) _ _ rfl g f s (w.heap.size + 1) 5 rfl rfl rfl ws (by omega) H5 ?_
       intro m6 H6 G6
       have R6 := R5.grownBy G6 hne
       have T6 := T5.grown G6 (fun j hj => by cases hj; right; omega)
       have c60 := R6.cell 0 _ rfl
       have c61 := R6.cell 1 _ rfl
       have c62 := R6.cell 2 _ rfl)
    | (refine wpList_insert_tab rfl (.tmp 8) _ _ rfl g f s (w.heap.size + 1) 6 rfl rfl rfl w6 (by omega) H6 ?_
       intro m7 H7 G7
       have R7 := R6.grownBy G7 hne
       have T7 := T6.grown G7 (fun j hj => by cases hj; right; omega)
       have c70 := R7.cell 0 _ rfl
       have c71 := R7.cell 1 _ rfl
       have c72 := R7.cell 2 _ rfl)
    | (at_lookup
       refine wpList_lookup_own_int _ rfl _ _ 66 rfl 3 3 .i64 law3 Try.underlying66 Try.underlying3 (zero3 _) (w.heap.size + 1) 7 _ rfl H7 _ _ rfl (key3 part (by omega)) ?_
       intro c hat _
       rw [tab_at g f s _ 7 part hp] at hat
       injection hat with hat
       injection hat with _ hat
       subst hat))
  all_goals
    clear R0 R1 R2 R3 R4 R5 R6 R7 H0 H1 H2 H3 H4 H5 H6 H7 G1 G2 G3 G4 G5 G6 G7
    go_ret
  · rename_i h
    exact ⟨by simp [fitB]; intro h0; omega, T7⟩
  · exact ⟨by simp [fitB]; intro h0; omega, T7⟩
end Go.Proofs.Ytedgeoigapilnaa
