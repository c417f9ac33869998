/- 'scan.All' by a contract: whatever closure is handed in, if it keeps an invariant of the caller's own. -/
import Derived.Test.YtaolbalcedhhbaaRows
import Derived.WalkKit
import Derived.WalkLawsBesides
import Derived.Lib.Hide
namespace Go.Proofs.Ytaolbalcedhhbaa
open Go.RowKit

theorem Try.info3 : (Try.prog.info? 3).map (fun i => (i.zero, i.size, i.bytes)) = some (some (.int .i64 0), 1, 8) := by kernel_rfl

/-- From block B on nothing that was there has turned. -/
structure KeepsFrom (B : Nat) (w w' : World) : Prop where
  size : w.heap.size ≤ w'.heap.size
  block : ∀ k, B ≤ k → k < w.heap.size → w'.heap[k]? = w.heap[k]?

theorem KeepsFrom.owns {B : Nat} {w w' : World} (h : KeepsFrom B w w') {e size : Nat} {v : Value} {n : Nat} {xs : List Value} (ho : w.ownsRow B e size v n xs) : w'.ownsRow B e size v n xs := by
  obtain ⟨h1, h2⟩ := ho
  refine ⟨h1, ?_⟩
  rcases h2 with h2 | ⟨g, cap, cur, hv, hg, hh, r⟩
  · exact Or.inl h2
  · exact Or.inr ⟨g, cap, cur, hv, hg, by rw [h.block g hg (lt_of_block hh)]; exact hh, r⟩

/-- What is not 0 of the first k. -/
def nz (v : Nat → Int) (k : Nat) : List Int := ((List.range k).map v).filter (fun x => x != 0)
theorem nz_zero (v : Nat → Int) : nz v 0 = [] := rfl
theorem nz_hit (v : Nat → Int) (k : Nat) (h : (v k != 0) = true) : nz v (k + 1) = nz v k ++ [v k] := by
  unfold nz; rw [List.range_succ, List.map_append, List.filter_append]; simp only [List.map_cons, List.map_nil, List.filter_cons, h, if_true, List.filter_nil]
theorem nz_miss (v : Nat → Int) (k : Nat) (h : (v k != 0) = false) : nz v (k + 1) = nz v k := by
  unfold nz; rw [List.range_succ, List.map_append, List.filter_append]; simp [h]
theorem nz_le (v : Nat → Int) (k : Nat) : (nz v k).length ≤ k := by
  unfold nz; exact Nat.le_trans (List.length_filter_le _ _) (by simp)

/-- What the closure F (with what it captured) does at the k-th call. -/
def Loads (F : Nat) (lb : Array Value) (B : Nat) (I : Nat → World → Prop) (v : Nat → Int) (n : Nat) : Prop :=
  ∀ k W, k < n → B ≤ W.heap.size → I k W → Calls Try.prog F (#[.int .i64 (k : Int)] ++ lb) W fun e W' => e = .returned (.int .i64 (v k)) ∧ I (k + 1) W' ∧ KeepsFrom B W W'

set_option maxHeartbeats 1000000 in
set_option maxRecDepth 100000 in
theorem all_any (F : Nat) (lb : Array Value) (B : Nat) (I : Nat → World → Prop) (v : Nat → Int) (n : Nat) (w : World)
    (eg : ∀ args w, (callFunc F args).run Try.prog w = .ok (.enter F args) w)
    (hn : n ≤ 1000) (hl : Loads F lb B I v n) (hst : ∀ k W W', I k W → Below B W W' → I k W')
    (hB : B ≤ w.heap.size) (h0 : I 0 w) :
    Calls Try.prog 12 #[.int .i64 (n : Int), .func (.func F) #[] lb] w fun e w' =>
      ∃ u, e = .returned u ∧ w'.ownsRow B 3 1 u (nz v n).length ((nz v n).map (Value.int .i64)) ∧ I n w' ∧ B ≤ w'.heap.size := by
  obtain ⟨i0, hi, hz0, hz1, hz2⟩ := info_parts Try.info3
  have hn0 : (0 : Int) ≤ (n : Int) := by omega
  go_enter Try.func12, Try.ntmps12
  go_wp2_with fail
  go_loopw [5, 10] (fun u i wr => ∃ k : Nat, k ≤ n ∧ i = .int .i64 k ∧ wr.ownsRow B 3 1 u (nz v k).length ((nz v k).map (Value.int .i64)) ∧ I k wr ∧ B ≤ wr.heap.size)
    (fun _ i _ => n - (intOf i).toNat)
  case atStart => exact ⟨0, Nat.zero_le _, rfl, World.ownsRow_nil _ _ _ _, h0, hB⟩
  case round =>
    obtain ⟨k, hk, rfl, hown, hI, hBr⟩ := hrel
    by_cases hlt : k < n
    · go_wp2_with fail
      refine (hl k _ hlt hBr hI).mono ?_
      rintro e w1 ⟨rfl, hI1, hk1⟩
      have hown1 := hk1.owns hown
      have hB1 := Nat.le_trans hBr hk1.size
      clear hl hk1 hown hI
      cases hv : (v k != 0)
      · go_wp2_with fail
        go_roundw
        case rel => exact ⟨k + 1, by omega, by go_num, by rw [nz_miss v k hv]; exact hown1, hI1, hB1⟩
        case measure => simp [intOf]; omega
      · go_wp2_with (at_builtin; refine wpList_append_own _ rfl _ _ 22 rfl B 3 i0 (.int .i64 0) 1 8 Try.underlying22 hi hz0 hz1 hz2 rfl (by decide) _ _ _ rfl (hown1.alloc _) ⟨w1.heap.size, 0, none⟩ 1 1 [.int .i64 (v k)] rfl rfl ?c1 ?c2 ?c3 ?c4 ?c5 ?_)
        case c1 =>
          intro j u hj
          match j, hj with
          | 0, hj => simp at hj; subst hj; simp [Addr.add]
        case c2 => intro u hu; simp at hu; subst hu; rfl
        case c3 => have := nz_le v k; unfold maxLen; omega
        case c4 => have := nz_le v k; omega
        case c5 => simp; omega
        intro v' w2 hown2 hgrow _
        have hI2 := hst _ _ _ hI1 (((Below.refl B w1).alloc hB1 _).grown hgrow (by simp; omega) (fun j hj => (hown1.lt j hj).1))
        have hB2 : B ≤ w2.heap.size := by have := hgrow.size; simp at this; omega
        have hs : w2.ownsRow B 3 1 v' (nz v (k + 1)).length ((nz v (k + 1)).map (Value.int .i64)) := by
          rw [nz_hit v k hv]; simpa using hown2
        clear hown2 hgrow hown1 hI1
        go_wp2_with fail
        go_roundw
        case rel => exact ⟨k + 1, by omega, by go_num, hs, hI2, hB2⟩
        case measure => simp [intOf]; omega
    · obtain rfl : k = n := by omega
      go_wp2_with fail
      go_ret
      exact ⟨_, rfl, hown, hI, hBr⟩

/-- None at all. -/
theorem all_none (f : Value) (N : Int) (w : World) (hN : N ≤ 0) :
    Calls Try.prog 12 #[.int .i64 N, f] w fun e w' => e = .returned (.slice none 0 0) ∧ w = w' := by
  rcases Int.lt_or_eq_of_le hN with hlt | rfl
  all_goals
    go_enter Try.func12, Try.ntmps12
    go_wp2_with fail
    refine wp_loop_rounds 1 ?_
    rw [rounds_succ]
    go_wp2_with fail
    go_ret
    exact ⟨rfl, rfl⟩
end Go.Proofs.Ytaolbalcedhhbaa
