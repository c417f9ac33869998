/- The closures of ScanChunks; plain laws on 'nz'. -/
import Derived.Test.YtaolbalcedhhbaaInts
namespace Go.Proofs.Ytaolbalcedhhbaa
open Go.RowKit

theorem nz_add (v : Nat → Int) (a b : Nat) : nz v (a + b) = nz v a ++ nz (fun i => v (a + i)) b := by
  induction b with
  | zero => simp [nz_zero]
  | succ b ih =>
    rw [← Nat.add_assoc]
    cases h : (v (a + b) != 0)
    · rw [nz_miss v (a + b) h, ih, nz_miss (fun i => v (a + i)) b h]
    · rw [nz_hit v (a + b) h, ih, nz_hit (fun i => v (a + i)) b h, List.append_assoc]
theorem nz_prefix (v : Nat → Int) (a b : Nat) (h : a ≤ b) : ∃ r, nz v b = nz v a ++ r := by
  obtain ⟨c, rfl⟩ : ∃ c, b = a + c := ⟨b - a, by omega⟩
  exact ⟨_, nz_add v a c⟩
theorem nz_at (v : Nat → Int) (j m : Nat) (hj : j < m) (h : (v j != 0) = true) : (nz v j).length < (nz v m).length ∧ (nz v m).getD (nz v j).length 0 = v j := by
  obtain ⟨r, hr⟩ := nz_prefix v (j + 1) m (by omega)
  rw [nz_hit v j h] at hr
  rw [hr]
  refine ⟨by simp, ?_⟩
  simp [List.getD]

/-- A box of a slice. -/
theorem box_cell {w : World} {b : Nat} {v : Value} {t : TypeId} (h : w.heap[b]? = some (.cells #[v] t (0, 0))) : w.cell? ⟨b, 0, none⟩ = some v := cell_of_one h

theorem chunks2_any (bs b off len cap k : Nat) (zs : List Int) (w : World)
    (hs : w.heap[bs]? = some (.cells #[.slice (some ⟨b, off, none⟩) len cap] 22 (0, 0))) (hk : k < len) (hc : w.cell? ⟨b, off + k, none⟩ = some (.int .i64 (zs.getD k 0))) :
    Calls Try.prog 13 #[.int .i64 (k : Int), .pointer (some ⟨bs, 0, none⟩)] w fun e w' => e = .returned (.int .i64 (zs.getD k 0)) ∧ w = w' := by
  have c0 := cell_of_one hs
  obtain ⟨x, hx⟩ : ∃ x, zs.getD k 0 = x := ⟨_, rfl⟩
  rw [hx] at hc ⊢
  clear hs hx
  go_enter Try.func13, Try.ntmps13
  go_wp2
  go_ret
  exact ⟨rfl, rfl⟩

theorem chunks1_any (bo ba bn bs b off len cap k : Nat) (addr : Int) (zs : List Int) (w : World)
    (ho : w.heap[bo]? = some (.cells #[.bool true] 4 (0, 0))) (ha : w.heap[ba]? = some (.cells #[.int .i64 addr] 3 (0, 0))) (hn : w.heap[bn]? = some (.cells #[.int .i64 (k : Int)] 3 (0, 0)))
    (hs : w.heap[bs]? = some (.cells #[.slice (some ⟨b, off, none⟩) len cap] 22 (0, 0))) (hk : k < len) (hlen : len ≤ 1000) (hc : w.cell? ⟨b, off + k, none⟩ = some (.int .i64 (zs.getD k 0)))
    (hne : bo ≠ bn) (h1 : bo ≠ bs) (h2 : bn ≠ bs) (h3 : b ≠ bo) (h4 : b ≠ bn) :
    Calls Try.prog 8 #[.int .i64 addr, .int .i64 (k : Int), .pointer (some ⟨bo, 0, none⟩), .pointer (some ⟨ba, 0, none⟩), .pointer (some ⟨bn, 0, none⟩), .pointer (some ⟨bs, 0, none⟩)] w fun e w' => e = .returned (.int .i64 (zs.getD k 0)) ∧
      w'.heap[bo]? = some (.cells #[.bool true] 4 (0, 0)) ∧ w'.heap[bn]? = some (.cells #[.int .i64 ((k + 1 : Nat) : Int)] 3 (0, 0)) ∧ Turns (fun j => j = bo ∨ j = bn) w w' := by
  have c0 := cell_of_one ho
  have c1 := cell_of_one ha
  have c2 := cell_of_one hn
  have c3 := cell_of_one hs
  have f0 := free_of_one ho
  have f2 := free_of_one hn
  obtain ⟨x, hx⟩ : ∃ x, zs.getD k 0 = x := ⟨_, rfl⟩
  rw [hx] at hc ⊢
  have HO := Lib.hid ho
  have HN := Lib.hid hn
  have hk' : (k : Int) < (len : Int) := by omega
  clear hs hx ho ha hn
  go_enter Try.func8, Try.ntmps8
  go_wp2
  go_ret
  have e : ((k : Int) + 1) = ((k + 1 : Nat) : Int) := by omega
  have t1 : Turns (fun j => j = bo ∨ j = bn) w (w.setCell ⟨bo, 0, none⟩ (.bool true)) := (Turns.refl _ _).setCell (p := ⟨bo, 0, none⟩) (Or.inl (Or.inl rfl)) _
  rw [e]
  refine ⟨rfl, ?_, ?_, t1.setCell (p := ⟨bn, 0, none⟩) (Or.inl (Or.inr rfl)) _⟩
  · rw [Below.heap_setCell _ _ _ _ hne]; exact one_setCell HO.out
  · exact one_setCell ((Below.heap_setCell _ _ _ _ (by simp; omega)).trans HN.out)
end Go.Proofs.Ytaolbalcedhhbaa
