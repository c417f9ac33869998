/- code: the programs of CodeBounds, in plain Lean: which of them may be; the cells that make leaves. -/
import Derived.Test.YtedgeoigapilnaaHelp
import Derived.Laws.MakeOwn
namespace Go.Proofs.Ytedgeoigapilnaa
open Go.RowKit

def bIn (m : Nat) (x : Int) : In := match m with | 0 => ⟨2, x, 0, 0⟩ | 1 => ⟨3, 0, x, 0⟩ | 2 => ⟨6, 0, x, 0⟩ | 3 => ⟨7, x, 0, 0⟩ | 4 => ⟨8, x, 0, 0⟩ | 5 => ⟨14, x, 0, 0⟩ | _ => ⟨11, x, 0, 0⟩
def bMost (m : Nat) (g f s : Int) : Int := match m with | 0 => 16 | 1 => 256 | 2 => g | 3 => g | 4 => f | 5 => s | _ => 32
theorem bIn_wrong (m : Nat) (hm : m < 7) (x g f s : Int) : 0 ≤ wrongI g f s (bIn m x) ↔ (x < 0 ∨ bMost m g f s ≤ x) := by
  rcases (by omega : m = 0 ∨ m = 1 ∨ m = 2 ∨ m = 3 ∨ m = 4 ∨ m = 5 ∨ m = 6) with rfl | rfl | rfl | rfl | rfl | rfl | rfl <;>
    (simp [wrongI, bIn, bMost, tabK, fitB, most]; (try split) <;> simp_all <;> omega)
theorem in0_right (g f s : Int) : ¬ 0 ≤ wrongI g f s in0 := by simp [wrongI, in0, tabK, fitB, most]

theorem scanL_zeros {g f s : Int} : ∀ (m : Nat) (r : List In) (n : Int), scanL g f s (List.replicate m in0 ++ r) n = scanL g f s r (n + m)
  | 0, r, n => by simp
  | m + 1, r, n => by
    rw [List.replicate_succ, List.cons_append, scanL, if_neg (in0_right g f s), scanL_zeros m r (n + 1)]
    congr 1
    omega
theorem scanF_zeros {g f : Int} {K : Nat} : ∀ (m : Nat) (r : List (List In)) (n : Int), scanF g f (List.replicate m (List.replicate K in0) ++ r) n = scanF g f r (n + m * K)
  | 0, r, n => by simp
  | m + 1, r, n => by
    have h := scanL_zeros (g := g) (f := f) (s := (K : Int)) K [] n
    rw [List.append_nil, scanL] at h
    rw [List.replicate_succ, List.cons_append, scanF, List.length_replicate, h]
    simp only
    rw [scanF_zeros m r (n + K)]
    congr 1
    rw [show ((m + 1 : Nat) : Int) = (m : Int) + 1 from by omega, Int.add_mul]
    omega
/-- The program: N functions of K instructions of zeros, the last of the last y. -/
def bFs (N K : Nat) (y : In) : List (List In) := List.replicate (N - 1) (List.replicate K in0) ++ [List.replicate (K - 1) in0 ++ [y]]
theorem bFs_length (N K : Nat) (y : In) (h : 1 ≤ N) : (bFs N K y).length = N := by simp [bFs]; omega
theorem bFs_may {g : Int} {N K : Nat} {y : In} (hg0 : 0 ≤ g) (hg : g ≤ 32) (hN : 1 ≤ N) (hN16 : N ≤ 16) (hK : 1 ≤ K) (hK64 : K ≤ 64) :
    mayI ⟨g, bFs N K y⟩ = if 0 ≤ wrongI g N K y then 1 + (N : Int) * K else 0 := by
  have hl := bFs_length N K y hN
  have hsz : (bFs N K y).all sizeB = true := by
    rw [List.all_eq_true]
    intro l hl
    have e : l.length = K := by
      rcases List.mem_append.1 hl with h | h
      · rw [List.eq_of_mem_replicate h, List.length_replicate]
      · rw [List.mem_singleton.1 h]; simp; omega
    simp [sizeB, e]
    omega
  have hb : ¬ ((bFs N K y).length < 1 ∨ 16 < (bFs N K y).length ∨ g < 0 ∨ 32 < g) := by rw [hl]; omega
  have hs : scanF g N (bFs N K y) 1 = if 0 ≤ wrongI g N K y then .error (1 + (N : Int) * K) else .ok (1 + (N : Int) * K) := by
    unfold bFs
    rw [scanF_zeros, scanF]
    have e : ((List.replicate (K - 1) in0 ++ [y]).length : Int) = K := by simp; omega
    rw [e, scanL_zeros, scanL]
    have e2 : (1 : Int) + ((N - 1 : Nat) : Int) * K + ((K - 1 : Nat) : Int) + 1 = 1 + (N : Int) * K := by
      have e3 : ((N - 1 : Nat) : Int) = (N : Int) - 1 := by omega
      rw [e3, Int.sub_mul]
      omega
    rw [e2]
    by_cases hw : 0 ≤ wrongI g N K y
    · rw [if_pos hw, if_pos hw]
    · rw [if_neg hw, if_neg hw]
      rfl
  by_cases hw : 0 ≤ wrongI g N K y
  · rw [if_pos hw] at hs ⊢
    exact mayI_err hb hsz (by rw [hl]; exact hs)
  · rw [if_neg hw] at hs ⊢
    exact mayI_none hb hsz (by rw [hl]; exact hs)

theorem flat_zeros (K : Nat) : flat (List.replicate K in0) = List.replicate (K * 4) (.int .i64 0) := by
  induction K with
  | zero => rfl
  | succ K ih =>
    rw [List.replicate_succ]
    show ic in0 ++ flat (List.replicate K in0) = _
    rw [ih, show (K + 1) * 4 = K * 4 + 1 + 1 + 1 + 1 from by omega, List.replicate_succ, List.replicate_succ, List.replicate_succ, List.replicate_succ]
    rfl
theorem made_zeros (n : Nat) : madeCells #[.int .i64 0, .int .i64 0, .int .i64 0, .int .i64 0] n = (List.replicate n (.int .i64 0)).toArray := by
  apply Array.ext
  · simp [madeCells]
  · intro i h1 h2
    simp only [madeCells, Array.getElem_map, Array.getElem_range, List.getElem_toArray, List.getElem_replicate]
    show (#[Value.int .i64 0, .int .i64 0, .int .i64 0, .int .i64 0])[i % 4]! = _
    rcases (by omega : i % 4 = 0 ∨ i % 4 = 1 ∨ i % 4 = 2 ∨ i % 4 = 3) with h | h | h | h <;> rw [h] <;> rfl
/-- 'make([]Inst, K)'. -/
theorem run_make_insts (K : Nat) (hK : K ≤ 64) (w : World) : (Instr.makeSlice 38 (.int .i64 (K : Int)) (.int .i64 (K : Int))).run Try.prog w = .ok (.slice (some ⟨w.heap.size, 0, none⟩) K K) (w.alloc (.cells (flat (List.replicate K in0)).toArray 37)) := by
  obtain ⟨i, hi, hz0, hz1, hz2⟩ := info_parts Try.info37
  have h := run_make (P := Try.prog) w 38 37 i _ Try.underlying38 hi hz0 .i64 .i64 (K : Int) (K : Int) (by omega) (Int.le_refl _) (by rw [hz2]; omega) (by omega)
  rw [Int.toNat_natCast, hz1] at h
  rw [h, flat_zeros]
  congr 3
  exact made_zeros _
end Go.Proofs.Ytedgeoigapilnaa
