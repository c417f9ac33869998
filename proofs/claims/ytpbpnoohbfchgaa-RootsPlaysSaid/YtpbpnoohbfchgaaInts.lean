/- roots: numbers that the call itself appends. -/
import Derived.Test.YtpbpnoohbfchgaaTold
namespace Go.Proofs.Ytpbpnoohbfchgaa
open Go.RowKit

theorem mod_idx (x : Int) (n : Nat) (h1 : 1 ≤ n) (h2 : n ≤ 1000) : ∃ q : Nat, q < n ∧ wrap64 ((IntKind.u64.wrap x).tmod (n : Int)) = (q : Int) := by
  have h0' : 0 ≤ IntKind.u64.wrap x := by rw [IntKind.wrap_u64]; omega
  rw [Int.tmod_eq_emod_of_nonneg h0']
  generalize IntKind.u64.wrap x = y
  have l1 : 0 ≤ y % (n : Int) := Int.emod_nonneg _ (by omega)
  have l2 : y % (n : Int) < n := Int.emod_lt_of_pos _ (by omega)
  generalize y % (n : Int) = z at l1 l2 ⊢
  refine ⟨z.toNat, by omega, ?_⟩
  unfold wrap64
  omega

theorem Try.info3 : (Try.prog.info? 3).map (fun i => (i.zero, i.size, i.bytes)) = some (some (.int .i64 0), 1, 8) := by kernel_rfl

def ints (zs : List Int) : List Value := zs.map (Value.int .i64)
def IV (w : World) (B : Nat) (v : Value) (zs : List Int) : Prop := View w B 3 1 v zs.length (ints zs)
theorem IV.later {w w' : World} {D : Nat → Prop} {B : Nat} {v : Value} {zs : List Int} (h : IV w B v zs) (t : Turns D w w') (hD : ∀ g, v.ownBlock = some g → ¬ D g) : IV w' B v zs := View.later h t hD

theorem wpList_append_int {w : World} {ops : Array Oper} {rest : List Oper} {o : Oper} {a : Act} {Q : Exit → Act → World → Prop} (hgd : o.guard = none) (s y : Operand)
    (ho : o.op = .call { callee := .builtin .append, args := #[s, y], argTypes := #[23, 23] }) (B : Nat) (v : Value) (zs : List Int) (ad : Addr) (c : Nat) (z : Int)
    (hsv : a.eval s = v) (hyv : a.eval y = .slice (some ad) 1 c) (hv : IV w B v zs) (h0 : w.cell? (ad.add 0) = some (.int .i64 z))
    (hb : zs.length ≤ 100000) (hB : B ≤ w.heap.size)
    (h : ∀ v' w', IV w' B v' (zs ++ [z]) → Grew w w' v B → Lies w v v' →
      wpList Try.prog ops Q rest (a.put o.dst v') w') : wpList Try.prog ops Q (o :: rest) a w := by
  obtain ⟨i, hi, hz0, hz1, hz2⟩ := info_parts Try.info3
  refine wpList_append_view hgd s y 23 3 1 8 _ i ho Try.underlying23 hi hz0 hz1 hz2 rfl B v _ zs.length 1 (ints zs) [.int .i64 z] hsv hyv hv ?_ (by unfold maxLen; omega) (by omega) hB ?_
  · refine Src.ofSlice w Try.underlying23 ad 1 c [.int .i64 z] rfl (fun k u hu => ?_) (fun u hu => by simp at hu; subst hu; rfl)
    match k, hu with
    | 0, hu => simp at hu; subst hu; exact h0
    | k + 1, hu => simp at hu
  · intro v' w' hv' hg hw
    refine h v' w' ?_ hg hw
    unfold IV
    rw [List.length_append]
    have : ints (zs ++ [z]) = ints zs ++ [.int .i64 z] := by simp [ints]
    rw [this]
    exact hv'

def up (k : Nat) : List Int := (List.range k).map fun (i : Nat) => (i : Int)
theorem up_succ (k : Nat) : up (k + 1) = up k ++ [(k : Int)] := by simp [up, List.range_succ]
theorem up_length (k : Nat) : (up k).length = k := by simp [up]

theorem IV.isInts {w : World} {B : Nat} {v : Value} {zs : List Int} (h : IV w B v zs) : ∃ ao cap, v = .slice ao zs.length cap ∧ IsInts w ao zs.length zs := by
  by_cases hn : 0 < zs.length
  · obtain ⟨g, o, cap, rfl, _, hg, _, _, _, hc⟩ := View.cells h hn
    refine ⟨_, _, rfl, rfl, fun _ => ⟨g, o, rfl, hg, fun j hj => hc j _ ?_⟩⟩
    simp [ints, hj]
  · obtain ⟨ao, cap, hv⟩ := View.val h
    exact ⟨ao, cap, hv, rfl, fun h => absurd h hn⟩
end Go.Proofs.Ytpbpnoohbfchgaa
