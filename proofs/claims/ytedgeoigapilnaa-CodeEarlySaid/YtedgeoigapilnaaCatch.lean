/- code: the deferred closure of Decode by two contracts. -/
import Derived.Test.YtedgeoigapilnaaInst
import Derived.Tactics
import Derived.Tactics2
import Derived.Defers
import Derived.Recover
import Derived.Laws.Pointers
namespace Go.Proofs.Ytedgeoigapilnaa
open Go.RowKit
set_option linter.unusedSimpArgs false

section
variable {ops : Array Oper} {Q : Exit → Act → List Frame → World → Prop} {i : Nat} {rest : List Nat} {a : Act} {cs cs' : List Frame} {w w' : World} {v : Value}
theorem wpOpsS_val (o : Oper) (v : Value) (a' : Act) (ho : ops[i]? = some o) (hg : o.guard = none) (h : (execOp a.eval o).run Try.prog w = .ok (.value v) w') (ha : a.put o.dst v = a')
    (hK : wpOpsS Try.prog ops Q rest a' cs w') : wpOpsS Try.prog ops Q (i :: rest) a cs w := by
  have hw : Region.wanted o (yielded ops a.tmps) = true := by simp [Region.wanted, hg]
  simp only [wpOpsS, ho, hw, if_true, h]
  subst ha
  exact hK
theorem wpOpsS_skip (o : Oper) (a' : Act) (ho : ops[i]? = some o) (hg : o.guard = none) (h : (execOp a.eval o).run Try.prog w = .ok .skip w') (ha : a.put o.dst undef = a')
    (hK : wpOpsS Try.prog ops Q rest a' cs w') : wpOpsS Try.prog ops Q (i :: rest) a cs w := by
  have hw : Region.wanted o (yielded ops a.tmps) = true := by simp [Region.wanted, hg]
  simp only [wpOpsS, ho, hw, if_true, h]
  subst ha
  exact hK
theorem wpOpsS_recover (o : Oper) (a' : Act) (ho : ops[i]? = some o) (hg : o.guard = none) (h : (execOp a.eval o).run Try.prog w = .ok .recover w') (hr : recoverD cs = some (v, cs')) (ha : a.put o.dst v = a')
    (hK : wpOpsS Try.prog ops Q rest a' cs' w') : wpOpsS Try.prog ops Q (i :: rest) a cs w := by
  have hw : Region.wanted o (yielded ops a.tmps) = true := by simp [Region.wanted, hg]
  simp only [wpOpsS, ho, hw, if_true, h, hr]
  subst ha
  exact hK
theorem wpOpsS_recover_none (o : Oper) (a' : Act) (ho : ops[i]? = some o) (hg : o.guard = none) (h : (execOp a.eval o).run Try.prog w = .ok .recover w') (hr : recoverD cs = none) (ha : a.put o.dst .nilIface = a')
    (hK : wpOpsS Try.prog ops Q rest a' cs w') : wpOpsS Try.prog ops Q (i :: rest) a cs w := by
  have hw : Region.wanted o (yielded ops a.tmps) = true := by simp [Region.wanted, hg]
  simp only [wpOpsS, ho, hw, if_true, h, hr]
  subst ha
  exact hK
theorem wpOpsS_nil (h : Q .normal a cs w) : wpOpsS Try.prog ops Q [] a cs w := h
theorem wpS_region_at {id : Nat} (l : List Nat) (hl : List.range ops.size = l) (h : wpOpsS Try.prog ops Q l a cs w) : (Code.region id ops false).wpS Try.prog Q a cs w := by
  subst hl; exact wpS_region h
theorem wpS_at {c : Code} (a' : Act) (e : a = a') (h : c.wpS Try.prog Q a' cs w) : c.wpS Try.prog Q a cs w := e ▸ h
end

set_option maxHeartbeats 1000000 in
set_option maxRecDepth 100000 in
theorem catch_idle (p q r : Addr) (w : World) :
    CallsD Try.prog 19 #[.pointer (some p), .pointer (some q), .pointer (some r)] .returning w fun e u' w' => e = .returned (.tuple #[]) ∧ u' = .returning ∧ Turns (fun _ => False) w w' := by
  have H : (Try.prog.info? 51).map (·.size) = some 1 := by kernel_rfl
  have RB : Row (w.alloc (.cells #[.int .i64 0] 51)) w.heap.size 51 [.int .i64 0] := heap_new rfl
  refine callsD_of_wpS Try.func19 rfl fun c₀ cs hu => ?_
  have hh : recoverD (c₀ :: cs) = none := by simp [recoverD, hu]
  obtain ⟨A0, hA0⟩ : ∃ A : Act, A = { tmps := #[.pointer (some p), .pointer (some q), .pointer (some r), undef, undef, undef, undef, undef, undef, undef, undef, undef, undef, undef], defers := [] } := ⟨_, rfl⟩
  refine wpS_at A0 ?_ ?_
  · subst hA0; kernel_rfl
  apply wpS_seq
  refine wpS_region_at [0, 1, 2, 3, 4, 5, 6, 7] ?_ ?_
  · kernel_rfl
  obtain ⟨A1, hA1⟩ : ∃ A : Act, A = { tmps := #[.pointer (some p), .pointer (some q), .pointer (some r), undef, undef, undef, .nilIface, undef, undef, undef, undef, undef, undef, undef], defers := [] } := ⟨_, rfl⟩
  refine wpOpsS_recover_none (w' := w) _ A1 rfl rfl ?_ hh ?_ ?_
  · subst hA0; kernel_rfl
  · subst hA0 hA1; kernel_rfl
  obtain ⟨A2, hA2⟩ : ∃ A : Act, A = { tmps := #[.pointer (some p), .pointer (some q), .pointer (some r), undef, undef, undef, .nilIface, .tuple #[.agg #[.int .i64 0], .bool false], undef, undef, undef, undef, undef, undef], defers := [] } := ⟨_, rfl⟩
  refine wpOpsS_val (w' := w) _ (.tuple #[.agg #[.int .i64 0], .bool false]) A2 rfl rfl ?_ ?_ ?_
  · subst hA1; kernel_rfl
  · subst hA1 hA2; kernel_rfl
  obtain ⟨A3, hA3⟩ : ∃ A : Act, A = { tmps := #[.pointer (some p), .pointer (some q), .pointer (some r), undef, undef, .tuple #[.agg #[.int .i64 0], .bool false], .nilIface, .tuple #[.agg #[.int .i64 0], .bool false], undef, undef, undef, undef, undef, undef], defers := [] } := ⟨_, rfl⟩
  refine wpOpsS_val (w' := w) _ (.tuple #[.agg #[.int .i64 0], .bool false]) A3 rfl rfl ?_ ?_ ?_
  · subst hA2; kernel_rfl
  · subst hA2 hA3; kernel_rfl
  obtain ⟨A4, hA4⟩ : ∃ A : Act, A = { tmps := #[.pointer (some p), .pointer (some q), .pointer (some r), undef, undef, .tuple #[.agg #[.int .i64 0], .bool false], .nilIface, .tuple #[.agg #[.int .i64 0], .bool false], .agg #[.int .i64 0], undef, undef, undef, undef, undef], defers := [] } := ⟨_, rfl⟩
  refine wpOpsS_val (w' := w) _ (.agg #[.int .i64 0]) A4 rfl rfl ?_ ?_ ?_
  · subst hA3; kernel_rfl
  · subst hA3 hA4; kernel_rfl
  obtain ⟨A5, hA5⟩ : ∃ A : Act, A = { tmps := #[.pointer (some p), .pointer (some q), .pointer (some r), undef, undef, .tuple #[.agg #[.int .i64 0], .bool false], .nilIface, .tuple #[.agg #[.int .i64 0], .bool false], .agg #[.int .i64 0], .bool false, undef, undef, undef, undef], defers := [] } := ⟨_, rfl⟩
  refine wpOpsS_val (w' := w) _ (.bool false) A5 rfl rfl ?_ ?_ ?_
  · subst hA4; kernel_rfl
  · subst hA4 hA5; kernel_rfl
  obtain ⟨A6, hA6⟩ : ∃ A : Act, A = { tmps := #[.pointer (some p), .pointer (some q), .pointer (some r), .pointer (some ⟨w.heap.size, 0, none⟩), undef, .tuple #[.agg #[.int .i64 0], .bool false], .nilIface, .tuple #[.agg #[.int .i64 0], .bool false], .agg #[.int .i64 0], .bool false, undef, undef, undef, undef], defers := [] } := ⟨_, rfl⟩
  refine wpOpsS_val (w' := w.alloc (.cells #[.int .i64 0] 51)) _ (.pointer (some ⟨w.heap.size, 0, none⟩)) A6 rfl rfl ?_ ?_ ?_
  · subst hA5; kernel_rfl
  · subst hA5 hA6; kernel_rfl
  refine wpOpsS_skip (w' := (w.alloc (.cells #[.int .i64 0] 51)).setCells w.heap.size 0 [.int .i64 0]) _ A6 rfl rfl ?_ ?_ ?_
  · subst hA6
    show ((Instr.storeAt 51 (.pointer (some ⟨w.heap.size, 0, none⟩)) (.agg #[.int .i64 0])) >>= fun _ => pure Next.skip).run Try.prog _ = _
    rw [Sem.run_bind, run_storeAt_mid (P := Try.prog) (w.alloc (.cells #[.int .i64 0] 51)) w.heap.size 0 51 #[.int .i64 0] (row_there RB 1 rfl) (by rw [H]; rfl) (by kernel_rfl)]
    rfl
  · subst hA6; kernel_rfl
  obtain ⟨A7, hA7⟩ : ∃ A : Act, A = { tmps := #[.pointer (some p), .pointer (some q), .pointer (some r), .pointer (some ⟨w.heap.size, 0, none⟩), .bool false, .tuple #[.agg #[.int .i64 0], .bool false], .nilIface, .tuple #[.agg #[.int .i64 0], .bool false], .agg #[.int .i64 0], .bool false, undef, undef, undef, undef], defers := [] } := ⟨_, rfl⟩
  refine wpOpsS_val (w' := (w.alloc (.cells #[.int .i64 0] 51)).setCells w.heap.size 0 [.int .i64 0]) _ (.bool false) A7 rfl rfl ?_ ?_ ?_
  · subst hA6; kernel_rfl
  · subst hA6 hA7; kernel_rfl
  refine wpOpsS_nil ?_
  show Code.wpS Try.prog _ _ _ _ _
  apply wpS_seq
  refine wpS_region_at [0] ?_ ?_
  · kernel_rfl
  obtain ⟨A8, hA8⟩ : ∃ A : Act, A = { tmps := #[.pointer (some p), .pointer (some q), .pointer (some r), .pointer (some ⟨w.heap.size, 0, none⟩), .bool false, .tuple #[.agg #[.int .i64 0], .bool false], .nilIface, .tuple #[.agg #[.int .i64 0], .bool false], .agg #[.int .i64 0], .bool false, .bool false, undef, undef, undef], defers := [] } := ⟨_, rfl⟩
  refine wpOpsS_val (w' := (w.alloc (.cells #[.int .i64 0] 51)).setCells w.heap.size 0 [.int .i64 0]) _ (.bool false) A8 rfl rfl ?_ ?_ ?_
  · subst hA7; kernel_rfl
  · subst hA7 hA8; kernel_rfl
  refine wpOpsS_nil ?_
  show Code.wpS Try.prog _ _ _ _ _
  subst hA8
  refine wpS_cond (t := false) rfl ?_
  refine wpS_of_wp (wp_skip ?_)
  have T : Turns (fun _ => False) w ((w.alloc (.cells #[.int .i64 0] 51)).setCells w.heap.size 0 [.int .i64 0]) := Turns.setCells (Or.inr (Nat.le_refl _)) _ _ _ ((Turns.refl _ _).alloc _)
  cases c₀
  simp_all [bodyPostS, results, Try.results19]
end Go.Proofs.Ytedgeoigapilnaa
