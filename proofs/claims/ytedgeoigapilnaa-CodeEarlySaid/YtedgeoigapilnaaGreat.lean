/- code: Great by contract: a bool, whichever. -/
import Derived.Test.YtedgeoigapilnaaMay
namespace Go.Proofs.Ytedgeoigapilnaa
open Go.RowKit
def SomeBool (w : World) (e : Ending) (w' : World) : Prop := (∃ b : Bool, e = .returned (.bool b)) ∧ Turns (fun _ => False) w w'
set_option maxHeartbeats 2000000 in
set_option maxRecDepth 100000 in
theorem great_any (g : Int) (fs : List (List In)) (v : Value) (w : World) (F : Funcs w v fs) :
    Calls Try.prog 9 #[.agg #[.int .i64 g, v]] w (SomeBool w) := by
  obtain ⟨w1, hw1⟩ : ∃ w1, w.alloc (.cells #[.int .i64 g, v] 24) = w1 := ⟨_, rfl⟩
  have R1 : Row w1 w.heap.size 24 [.int .i64 g, v] := by subst hw1; exact heap_new rfl
  have T1 : Turns (fun _ => False) w w1 := by subst hw1; exact (Turns.refl _ _).alloc _
  obtain ⟨hmax, ao, cap, rfl, hF⟩ := F
  have hNN : fs.length = fs.length := rfl
  generalize hN : fs.length = N at hmax R1 hw1 ⊢
  have H1 := Lib.hid hw1
  have HN := Lib.hid hN
  have HF := Lib.hid hF
  have c1 := R1.cell 1 _ rfl
  have HT1 := Lib.hid T1
  clear hw1 hN hF hNN T1
  unfold maxLen at hmax
  go_enter Try.func9, Try.ntmps9
  go_wp2_with fail
  rw [H1.out]
  clear H1
  go_loop [3, 4] (fun nv kv => ∃ (k : Nat) (n : Int), k ≤ N ∧ kv = .int .i64 (k : Int) ∧ nv = .int .i64 n) (fun _ kv => N - (intOf kv).toNat)
  case atStart => exact ⟨0, _, by omega, rfl, rfl⟩
  case round =>
    obtain ⟨k, n, hk, rfl, rfl⟩ := hrel
    by_cases hlt : k < N
    · obtain ⟨l, hl⟩ : ∃ l, fs[k]? = some l := ⟨_, List.getElem?_eq_getElem (by rw [HN.out]; exact hlt)⟩
      obtain ⟨b, o, u, rfl, hc, ⟨hLm, ao', cap', rfl, hI⟩⟩ := HF.out k l hl
      have hc1 := HT1.out.cell hc (fun x => x)
      generalize l.length = L at hc1
      clear hI hc hl hLm
      go_wp2_with fail
      go_round
      case rel => exact ⟨k + 1, _, by omega, by go_num, rfl⟩
      case measure => simp [intOf]; omega
    · obtain rfl : k = N := by omega
      go_wp2_with fail
      go_ret
      exact ⟨⟨_, rfl⟩, HT1.out⟩
end Go.Proofs.Ytedgeoigapilnaa
