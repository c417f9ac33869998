/- code: the reference's fits by contract. -/
import Derived.Test.YtedgeoigapilnaaKinds
namespace Go.Proofs.Ytedgeoigapilnaa
open Go.RowKit
set_option maxHeartbeats 4000000 in
set_option maxRecDepth 100000 in
theorem rfits_any (g f s : Int) (part : Nat) (hp : part < 7) (v : Int) (w : World) :
    Calls Try.prog 27 #[.int .i64 (refK part : Int), .int .i64 v, .int .i64 g, .int .i64 f, .int .i64 s] w fun e w' => e = .returned (.bool (fitB g f s part v)) ∧ Turns (fun _ => False) w w' := by
  by_cases h0 : 0 ≤ v
  · have d0 : decide (0 ≤ v) = true := by simpa using h0
    have hR : Row (w.alloc (.cells #[.int .i64 1, .int .i64 16, .int .i64 g, .int .i64 f, .int .i64 32, .int .i64 s, .int .i64 256] 3)) w.heap.size 3 [.int .i64 1, .int .i64 16, .int .i64 g, .int .i64 f, .int .i64 32, .int .i64 s, .int .i64 256] := heap_new rfl
    have hk : refK part < 7 := by unfold refK; split <;> omega
    have hc : (w.alloc (.cells #[.int .i64 1, .int .i64 16, .int .i64 g, .int .i64 f, .int .i64 32, .int .i64 s, .int .i64 256] 3)).cell? ⟨w.heap.size, refK part, none⟩ = some (.int .i64 (most g f s part)) := by
      have hpp : part = 0 ∨ part = 1 ∨ part = 2 ∨ part = 3 ∨ part = 4 ∨ part = 5 ∨ part = 6 := by omega
      rcases hpp with rfl | rfl | rfl | rfl | rfl | rfl | rfl <;> exact hR.cell _ _ rfl
    have T : Turns (fun _ => False) w (w.alloc (.cells #[.int .i64 1, .int .i64 16, .int .i64 g, .int .i64 f, .int .i64 32, .int .i64 s, .int .i64 256] 3)) := (Turns.refl _ _).alloc _
    have hs : fitB g f s part v = decide (v < most g f s part) := by unfold fitB; rw [d0, Bool.true_and]
    rw [hs]
    generalize refK part = rk at hk hc ⊢
    generalize most g f s part = m at hc ⊢
    have HT := Lib.hid T
    clear hR T hs h0
    go_enter Try.func27, Try.ntmps27
    go_wp2_with fail
    go_ret
    exact ⟨rfl, HT.out⟩
  · have d0 : decide (0 ≤ v) = false := by simpa using h0
    have hs : fitB g f s part v = false := by unfold fitB; rw [d0, Bool.false_and]
    rw [hs]
    go_enter Try.func27, Try.ntmps27
    go_wp2_with fail
    go_ret
    exact ⟨rfl, Turns.refl _ _⟩
end Go.Proofs.Ytedgeoigapilnaa
