/- code: strings made into bytes; a region's condition made stronger on its way; the rest of a division by a small number. -/
import Derived.Test.YtedgeoigapilnaaMays
import Derived.Laws.IdiomStrings
namespace Go.Proofs.Ytedgeoigapilnaa
open Go.RowKit

theorem wpAnyH_less {ops : Array Oper} {Q : Exit → Act → World → Prop} {md : Region.Mode} {S S' : World → Prop} (h : ∀ w, S' w → S w) : ∀ (fuel : Nat) (listed : Array Bool) (a : Act) (w : World),
    wpAnyH Try.prog md ops Q S' fuel listed a w → wpAnyH Try.prog md ops Q S fuel listed a w
  | 0, _, _, _, hw => hw
  | fuel + 1, _, _, _, hw => ⟨hw.1, fun i hi => wpOp_mono (fun a' w' hk => ⟨h _ hk.1, wpAnyH_less h fuel _ a' w' hk.2⟩) (hw.2 i hi)⟩
theorem rem_range (x : Int) (n : Nat) (h0 : 0 < n) (hn : n ≤ 5000) : ∃ k : Nat, k < n ∧ (IntKind.u64.wrap x).tmod (n : Int) = (k : Int) := by
  have h1 : 0 ≤ IntKind.u64.wrap x := by rw [IntKind.wrap_u64]; omega
  rw [Int.tmod_eq_emod_of_nonneg h1]
  have h2 := Int.emod_nonneg (IntKind.u64.wrap x) (show (n : Int) ≠ 0 by omega)
  have h3 := Int.emod_lt_of_pos (IntKind.u64.wrap x) (show (0 : Int) < n by omega)
  exact ⟨((IntKind.u64.wrap x) % (n : Int)).toNat, by omega, by omega⟩
theorem rem_nat (x : Int) (n : Nat) (h0 : 0 < n) (hn : n ≤ 5000) : ∃ k : Nat, k < n ∧ IntKind.i64.wrap ((IntKind.u64.wrap x).tmod (n : Int)) = (k : Int) := by
  obtain ⟨k, h1, h2⟩ := rem_range x n h0 hn
  have e : IntKind.i64.wrap (k : Int) = (k : Int) := IntWalk.i64_in _ (by omega)
  exact ⟨k, h1, by rw [h2, e]⟩
theorem rem_nat64 (x : Int) (n : Nat) (h0 : 0 < n) (hn : n ≤ 5000) : ∃ k : Nat, k < n ∧ wrap64 ((IntKind.u64.wrap x).tmod (n : Int)) = (k : Int) := by
  obtain ⟨k, h1, h2⟩ := rem_range x n h0 hn
  exact ⟨k, h1, by rw [h2]; unfold wrap64; omega⟩

/-- A string's bytes as numbers. -/
def nums (t : ByteArray) : List Int := t.data.toList.map fun b => (b.toNat : Int)
theorem nums_length (t : ByteArray) : (nums t).length = t.size := by simp [nums]
theorem bytes_of (t : ByteArray) (w : World) : ∃ (a : Option Addr) (c : Nat) (w' : World), (convert 9 27 (.string t)).run Try.prog w = .ok (.slice a t.size c) w' ∧ IsBytes w' a t.size (nums t) ∧ Turns (fun _ => False) w w' := by
  have h := run_bytes_of_string (P := Try.prog) w 9 27 5 t Try.underlying9 Try.underlying27 Try.underlying5
  refine ⟨_, _, _, h, ⟨nums_length t, fun z hz => ?_, fun j hj => ⟨w.heap.size, 0, rfl, ?_, ?_⟩⟩, (Turns.refl (fun _ => False) w).drew.alloc _⟩
  · obtain ⟨b, _, rfl⟩ := List.mem_map.1 hz
    have := b.toNat_lt
    omega
  · exact lt_of_block (heap_alloc_new w.drew _)
  · have e := World.cell?_alloc_mark w.drew (bytesRow t (grownCap w t.size 0 5)) 5 ((bytesRow t (grownCap w t.size 0 5)).size, (bytesRow t (grownCap w t.size 0 5)).size + 1) j
    have hj' : j < t.data.size := hj
    rw [Nat.zero_add]
    refine e.trans ?_
    rw [bytesRow_at t _ j hj']
    congr 2
    unfold nums
    rw [List.getD_eq_getElem?_getD, List.getElem?_map, List.getElem?_eq_getElem (by simpa using hj')]
    rfl
end Go.Proofs.Ytedgeoigapilnaa
