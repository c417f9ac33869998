/- The closures of ScanApart. -/
import Derived.Test.YtaolbalcedhhbaaChunks1
namespace Go.Proofs.Ytaolbalcedhhbaa
open Go.RowKit

theorem apart1_a (ba bb bx b off len cap k : Nat) (zs : List Int) (w : World)
    (ha : w.heap[ba]? = some (.cells #[.slice (some ⟨b, off, none⟩) len cap] 22 (0, 0))) (hk : k < len) (hc : w.cell? ⟨b, off + k, none⟩ = some (.int .i64 (zs.getD k 0))) :
    Calls Try.prog 17 #[.int .i64 1000, .int .i64 (k : Int), .pointer (some ⟨ba, 0, none⟩), .pointer (some ⟨bb, 0, none⟩), .pointer (some ⟨bx, 0, none⟩)] w fun e w' => e = .returned (.int .i64 (zs.getD k 0)) ∧ w = w' := by
  have c0 := cell_of_one ha
  obtain ⟨x, hx⟩ : ∃ x, zs.getD k 0 = x := ⟨_, rfl⟩
  rw [hx] at hc ⊢
  have hk' : (k : Int) < (len : Int) := by omega
  clear ha hx
  go_enter Try.func17, Try.ntmps17
  go_wp2
  go_ret
  exact ⟨rfl, rfl⟩

theorem apart1_b (ba bb bx b off len cap k : Nat) (zs : List Int) (w : World)
    (ha : w.heap[bb]? = some (.cells #[.slice (some ⟨b, off, none⟩) len cap] 22 (0, 0))) (hk : k < len) (hc : w.cell? ⟨b, off + k, none⟩ = some (.int .i64 (zs.getD k 0))) :
    Calls Try.prog 17 #[.int .i64 5000, .int .i64 (k : Int), .pointer (some ⟨ba, 0, none⟩), .pointer (some ⟨bb, 0, none⟩), .pointer (some ⟨bx, 0, none⟩)] w fun e w' => e = .returned (.int .i64 (zs.getD k 0)) ∧ w = w' := by
  have c0 := cell_of_one ha
  obtain ⟨x, hx⟩ : ∃ x, zs.getD k 0 = x := ⟨_, rfl⟩
  rw [hx] at hc ⊢
  have hk' : (k : Int) < (len : Int) := by omega
  clear ha hx
  go_enter Try.func17, Try.ntmps17
  go_wp2
  go_ret
  exact ⟨rfl, rfl⟩

set_option maxHeartbeats 1000000 in
set_option maxRecDepth 100000 in
theorem apart2_any (a : Option Addr) (len cap : Nat) (zs : List Int) (w : World) (hlen : len ≤ 1000) (hi : IsInts w a len zs) :
    Calls Try.prog 18 #[.slice a len cap] w fun e w' => ∃ u, e = .returned u ∧ Own w' w.heap.size u (nz (fun i => zs.getD i 0) len) ∧ Turns (fun _ => False) w w' := by
  obtain ⟨i0, hi3, hz0, hz1, hz2⟩ := info_parts Try.info3
  go_enter Try.func18, Try.ntmps18
  go_wp2_with fail
  go_loopw [3, 4] (fun u i wr => ∃ k : Nat, k ≤ len ∧ i = .int .i64 k ∧ Own wr w.heap.size u (nz (fun i => zs.getD i 0) k) ∧ Turns (fun _ => False) w wr)
    (fun _ i _ => len - (intOf i).toNat)
  case atStart => exact ⟨0, Nat.zero_le _, rfl, World.ownsRow_nil _ _ _ _, Turns.refl _ _⟩
  case round =>
    obtain ⟨k, hk, rfl, hown, ht⟩ := hrel
    by_cases hlt : k < len
    · obtain ⟨b, off, rfl, hb, hc⟩ := hi.2 (by omega)
      have c0 := ht.cell (hc k hlt) (fun x => x)
      have hS := ht.size
      obtain ⟨x, hx⟩ : ∃ x, zs.getD k 0 = x := ⟨_, rfl⟩
      rw [hx] at c0
      have HX := Lib.hid hx
      clear hc hx
      cases hv : (x != 0)
      · have hO : Hid (Own wr w.heap.size u3 (nz (fun i => zs.getD i 0) (k + 1))) := by rw [nz_miss _ _ (by rw [HX.out]; exact hv)]; exact hown
        clear hown HX
        go_wp2_with fail
        go_roundw
        case rel => exact ⟨k + 1, by omega, by go_num, hO.out, ht⟩
        case measure => simp [intOf]; omega
      · go_wp2_with (at_builtin; refine wpList_append_own _ rfl _ _ 22 rfl w.heap.size 3 i0 (.int .i64 0) 1 8 Try.underlying22 hi3 hz0 hz1 hz2 rfl (by decide) _ _ _ rfl (World.ownsRow.alloc hown _) ⟨wr.heap.size, 0, none⟩ 1 1 [.int .i64 x] rfl rfl ?c1 ?c2 ?c3 ?c4 ?c5 ?_)
        case c1 =>
          intro j u hj
          match j, hj with
          | 0, hj => simp at hj; subst hj; simp [Addr.add]
        case c2 => intro u hu; simp at hu; subst hu; rfl
        case c3 => have := nz_le (fun i => zs.getD i 0) k; unfold maxLen; omega
        case c4 => have := nz_le (fun i => zs.getD i 0) k; omega
        case c5 => simp; omega
        intro v' w2 hown2 hgrow _
        have ht2 := (ht.alloc _).grown hgrow (fun j hj => Or.inr (World.ownsRow.lt hown j hj).1)
        have hs : Hid (Own w2 w.heap.size v' (nz (fun i => zs.getD i 0) (k + 1))) := by
          rw [nz_hit _ _ (by rw [HX.out]; exact hv), HX.out]; unfold Hid Own; simpa using hown2
        clear hown2 hgrow hown ht HX
        go_wp2_with fail
        go_roundw
        case rel => exact ⟨k + 1, by omega, by go_num, hs.out, ht2⟩
        case measure => simp [intOf]; omega
    · obtain rfl : k = len := by omega
      go_wp2_with fail
      go_ret
      exact ⟨_, rfl, hown, ht⟩
end Go.Proofs.Ytaolbalcedhhbaa
