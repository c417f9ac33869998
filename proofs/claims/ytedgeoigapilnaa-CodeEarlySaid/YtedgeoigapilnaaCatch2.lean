/- code: the deferred closure of Decode where the body panicked. Printed by wip/tools/catch_gen.py. -/
import Derived.Test.YtedgeoigapilnaaCatch
namespace Go.Proofs.Ytedgeoigapilnaa
open Go.RowKit
set_option linter.unusedSimpArgs false

set_option maxHeartbeats 1000000 in
set_option maxRecDepth 100000 in
theorem catch_panicking (p q r : Nat) (v0 v1 x y : Value) (i : Int) (w : World) (hp : Row w p 24 [v0, v1]) (hq : Row w q 3 [x]) (hr : Row w r 3 [y]) (h1 : p ≠ q) (h2 : p ≠ r) (h3 : q ≠ r) :
    CallsD Try.prog 19 #[.pointer (some ⟨p, 0, none⟩), .pointer (some ⟨q, 0, none⟩), .pointer (some ⟨r, 0, none⟩)] (.panicking (thrown i)) w fun e u' w' => e = .returned (.tuple #[]) ∧ u' = .panicking [{ v := .iface 51 (.agg #[.int .i64 i]), recovered := true }] ∧
      Row w' p 24 [.int .i64 0, .slice none 0 0] ∧ Row w' q 3 [.int .i64 6] ∧ Row w' r 3 [.int .i64 i] ∧ Turns (fun x => x = p ∨ x = q ∨ x = r) w w' := by
  have H : (Try.prog.info? 51).map (·.size) = some 1 := by kernel_rfl
  have RB : Row (w.alloc (.cells #[.int .i64 0] 51)) w.heap.size 51 [.int .i64 0] := heap_new rfl
  refine callsD_of_wpS Try.func19 rfl fun c₀ cs hu => ?_
  unfold thrown at hu
  have hh : recoverD (c₀ :: cs) = some (.iface 51 (.agg #[.int .i64 i]), { c₀ with mode := .panicking [{ v := .iface 51 (.agg #[.int .i64 i]), recovered := true }] } :: cs) := by simp [recoverD, hu]
  obtain ⟨A0, hA0⟩ : ∃ A : Act, A = { tmps := #[.pointer (some ⟨p, 0, none⟩), .pointer (some ⟨q, 0, none⟩), .pointer (some ⟨r, 0, none⟩), undef, undef, undef, undef, undef, undef, undef, undef, undef, undef, undef], defers := [] } := ⟨_, rfl⟩
  refine wpS_at A0 ?_ ?_
  · subst hA0; kernel_rfl
  apply wpS_seq
  refine wpS_region_at [0, 1, 2, 3, 4, 5, 6, 7] ?_ ?_
  · kernel_rfl
  obtain ⟨A1, hA1⟩ : ∃ A : Act, A = { tmps := #[.pointer (some ⟨p, 0, none⟩), .pointer (some ⟨q, 0, none⟩), .pointer (some ⟨r, 0, none⟩), undef, undef, undef, .iface 51 (.agg #[.int .i64 i]), undef, undef, undef, undef, undef, undef, undef], defers := [] } := ⟨_, rfl⟩
  refine wpOpsS_recover (w' := w) (v := .iface 51 (.agg #[.int .i64 i])) _ A1 rfl rfl ?_ hh ?_ ?_
  · subst hA0; kernel_rfl
  · subst hA0 hA1; kernel_rfl
  obtain ⟨A2, hA2⟩ : ∃ A : Act, A = { tmps := #[.pointer (some ⟨p, 0, none⟩), .pointer (some ⟨q, 0, none⟩), .pointer (some ⟨r, 0, none⟩), undef, undef, undef, .iface 51 (.agg #[.int .i64 i]), .tuple #[.agg #[.int .i64 i], .bool true], undef, undef, undef, undef, undef, undef], defers := [] } := ⟨_, rfl⟩
  refine wpOpsS_val (w' := w) _ (.tuple #[.agg #[.int .i64 i], .bool true]) A2 rfl rfl ?_ ?_ ?_
  · subst hA1; kernel_rfl
  · subst hA1 hA2; kernel_rfl
  obtain ⟨A3, hA3⟩ : ∃ A : Act, A = { tmps := #[.pointer (some ⟨p, 0, none⟩), .pointer (some ⟨q, 0, none⟩), .pointer (some ⟨r, 0, none⟩), undef, undef, .tuple #[.agg #[.int .i64 i], .bool true], .iface 51 (.agg #[.int .i64 i]), .tuple #[.agg #[.int .i64 i], .bool true], undef, undef, undef, undef, undef, undef], defers := [] } := ⟨_, rfl⟩
  refine wpOpsS_val (w' := w) _ (.tuple #[.agg #[.int .i64 i], .bool true]) A3 rfl rfl ?_ ?_ ?_
  · subst hA2; kernel_rfl
  · subst hA2 hA3; kernel_rfl
  obtain ⟨A4, hA4⟩ : ∃ A : Act, A = { tmps := #[.pointer (some ⟨p, 0, none⟩), .pointer (some ⟨q, 0, none⟩), .pointer (some ⟨r, 0, none⟩), undef, undef, .tuple #[.agg #[.int .i64 i], .bool true], .iface 51 (.agg #[.int .i64 i]), .tuple #[.agg #[.int .i64 i], .bool true], .agg #[.int .i64 i], undef, undef, undef, undef, undef], defers := [] } := ⟨_, rfl⟩
  refine wpOpsS_val (w' := w) _ (.agg #[.int .i64 i]) A4 rfl rfl ?_ ?_ ?_
  · subst hA3; kernel_rfl
  · subst hA3 hA4; kernel_rfl
  obtain ⟨A5, hA5⟩ : ∃ A : Act, A = { tmps := #[.pointer (some ⟨p, 0, none⟩), .pointer (some ⟨q, 0, none⟩), .pointer (some ⟨r, 0, none⟩), undef, undef, .tuple #[.agg #[.int .i64 i], .bool true], .iface 51 (.agg #[.int .i64 i]), .tuple #[.agg #[.int .i64 i], .bool true], .agg #[.int .i64 i], .bool true, undef, undef, undef, undef], defers := [] } := ⟨_, rfl⟩
  refine wpOpsS_val (w' := w) _ (.bool true) A5 rfl rfl ?_ ?_ ?_
  · subst hA4; kernel_rfl
  · subst hA4 hA5; kernel_rfl
  obtain ⟨A6, hA6⟩ : ∃ A : Act, A = { tmps := #[.pointer (some ⟨p, 0, none⟩), .pointer (some ⟨q, 0, none⟩), .pointer (some ⟨r, 0, none⟩), .pointer (some ⟨w.heap.size, 0, none⟩), undef, .tuple #[.agg #[.int .i64 i], .bool true], .iface 51 (.agg #[.int .i64 i]), .tuple #[.agg #[.int .i64 i], .bool true], .agg #[.int .i64 i], .bool true, undef, undef, undef, undef], defers := [] } := ⟨_, rfl⟩
  refine wpOpsS_val (w' := w.alloc (.cells #[.int .i64 0] 51)) _ (.pointer (some ⟨w.heap.size, 0, none⟩)) A6 rfl rfl ?_ ?_ ?_
  · subst hA5; kernel_rfl
  · subst hA5 hA6; kernel_rfl
  refine wpOpsS_skip (w' := (w.alloc (.cells #[.int .i64 0] 51)).setCells w.heap.size 0 [.int .i64 i]) _ A6 rfl rfl ?_ ?_ ?_
  · subst hA6
    show ((Instr.storeAt 51 (.pointer (some ⟨w.heap.size, 0, none⟩)) (.agg #[.int .i64 i])) >>= fun _ => pure Next.skip).run Try.prog _ = _
    rw [Sem.run_bind, run_storeAt_mid (P := Try.prog) (w.alloc (.cells #[.int .i64 0] 51)) w.heap.size 0 51 #[.int .i64 i] (row_there RB 1 rfl) (by rw [H]; rfl) (by kernel_rfl)]
    rfl
  · subst hA6; kernel_rfl
  obtain ⟨A7, hA7⟩ : ∃ A : Act, A = { tmps := #[.pointer (some ⟨p, 0, none⟩), .pointer (some ⟨q, 0, none⟩), .pointer (some ⟨r, 0, none⟩), .pointer (some ⟨w.heap.size, 0, none⟩), .bool true, .tuple #[.agg #[.int .i64 i], .bool true], .iface 51 (.agg #[.int .i64 i]), .tuple #[.agg #[.int .i64 i], .bool true], .agg #[.int .i64 i], .bool true, undef, undef, undef, undef], defers := [] } := ⟨_, rfl⟩
  refine wpOpsS_val (w' := (w.alloc (.cells #[.int .i64 0] 51)).setCells w.heap.size 0 [.int .i64 i]) _ (.bool true) A7 rfl rfl ?_ ?_ ?_
  · subst hA6; kernel_rfl
  · subst hA6 hA7; kernel_rfl
  refine wpOpsS_nil ?_
  show Code.wpS Try.prog _ _ _ _ _
  apply wpS_seq
  refine wpS_region_at [0] ?_ ?_
  · kernel_rfl
  obtain ⟨A8, hA8⟩ : ∃ A : Act, A = { tmps := #[.pointer (some ⟨p, 0, none⟩), .pointer (some ⟨q, 0, none⟩), .pointer (some ⟨r, 0, none⟩), .pointer (some ⟨w.heap.size, 0, none⟩), .bool true, .tuple #[.agg #[.int .i64 i], .bool true], .iface 51 (.agg #[.int .i64 i]), .tuple #[.agg #[.int .i64 i], .bool true], .agg #[.int .i64 i], .bool true, .bool true, undef, undef, undef], defers := [] } := ⟨_, rfl⟩
  refine wpOpsS_val (w' := (w.alloc (.cells #[.int .i64 0] 51)).setCells w.heap.size 0 [.int .i64 i]) _ (.bool true) A8 rfl rfl ?_ ?_ ?_
  · subst hA7; kernel_rfl
  · subst hA7 hA8; kernel_rfl
  refine wpOpsS_nil ?_
  show Code.wpS Try.prog _ _ _ _ _
  subst hA8
  refine wpS_cond (t := true) rfl ?_
  clear hh hu H hA0 hA1 hA2 hA3 hA4 hA5 hA6 hA7
  have T0 : Turns (fun _ => False) w ((w.alloc (.cells #[.int .i64 0] 51)).setCells w.heap.size 0 [.int .i64 i]) := Turns.setCells (Or.inr (Nat.le_refl _)) _ _ _ ((Turns.refl _ _).alloc _)
  have RX : Row ((w.alloc (.cells #[.int .i64 0] 51)).setCells w.heap.size 0 [.int .i64 i]) w.heap.size 51 [.int .i64 i] := RB.setCells [.int .i64 i] rfl
  have lp := hp.lt
  have lq := hq.lt
  have lr := hr.lt
  have hp := hp.later T0 (fun x => x)
  have hq := hq.later T0 (fun x => x)
  have hr := hr.later T0 (fun x => x)
  simp only [if_true]
  refine wpS_of_wp ?_
  generalize (w.alloc (.cells #[.int .i64 0] 51)).setCells w.heap.size 0 [.int .i64 i] = w5 at *
  have c0 := RX.cell 0 _ rfl
  have p0 := hp.cell 0 _ rfl
  have p1 := hp.cell 1 _ rfl
  have q0 := hq.cell 0 _ rfl
  have r0 := hr.cell 0 _ rfl
  have fp0 := hp.free 0
  have fp1 := hp.free 1
  have fq := hq.free 0
  have fr := hr.free 0
  go_region_law (fail)
  all_goals
    refine ⟨rfl, _, rfl, .tuple #[], by simp [results, Try.results19], rfl, rfl, ?_, ?_, ?_, ?_⟩
    · exact ((((hp.set 0 (.int .i64 0)).set 1 (.slice none 0 0)).other 0 _ h1).other 0 _ h2).drew
    · exact ((((hq.other 0 _ h1.symm).other 1 _ h1.symm).set 0 (.int .i64 6)).other 0 _ h3).drew
    · exact ((((hr.other 0 _ h2.symm).other 1 _ h2.symm).other 0 _ h3.symm).set 0 (.int .i64 i)).drew
    · exact (((((T0.mono (E := fun x => x = p ∨ x = q ∨ x = r) fun _ x _ => x.elim).setCell (p := ⟨p, 0, none⟩) (Or.inl (Or.inl rfl)) _).setCell (p := ⟨p, 1, none⟩) (Or.inl (Or.inl rfl)) _).setCell (p := ⟨q, 0, none⟩) (Or.inl (Or.inr (Or.inl rfl))) _).setCell (p := ⟨r, 0, none⟩) (Or.inl (Or.inr (Or.inr rfl))) _).drew
end Go.Proofs.Ytedgeoigapilnaa
