/- A slice of Ops, a slice of numbers that came in read as lists. -/
import Derived.Test.YtpbpnoohbfchgaaRef
import Derived.ProofKit
import Derived.OpenShut
import Derived.ChangeOld
import Derived.ChangeSame
import Derived.Deep.Slices
import Derived.Lib.SmallJoins
namespace Go.Proofs.Ytpbpnoohbfchgaa
open Go.ChangeShapes Go.WideShapes Go.ChangeAt Go.RowKit

structure OpR where
  kind : Int
  g : Int
instance : Inhabited OpR := ⟨⟨0, 0⟩⟩

def OpAt (w : World) (b o : Nat) (x : OpR) : Prop :=
  w.cell? ⟨b, o, none⟩ = some (.int .i64 x.kind) ∧ w.cell? ⟨b, o + 1, none⟩ = some (.int .i64 x.g)

/-- '.slice a n _' reads as the Ops z. -/
def IsOps (w : World) (a : Option Addr) (n : Nat) (z : Nat → OpR) : Prop :=
  0 < n → ∃ b off, a = some ⟨b, off, none⟩ ∧ b < w.heap.size ∧ ∀ j, j < n → OpAt w b (off + j * 2) (z j)

theorem cells2 {w : World} {a : Addr} {cs : List Value} (h : w.cells? 0 a 2 = some cs) : ∃ v0 v1, cs = [v0, v1] ∧ w.cell? (a.add 0) = some v0 ∧ w.cell? (a.add 1) = some v1 := by
  have e : List.range 2 = [0, 1] := rfl
  simp only [World.cells?, Nat.zero_le, if_true, e, List.mapM_cons, List.mapM_nil] at h
  cases h0 : w.cell? (a.add 0) with
  | none => rw [h0] at h; simp at h
  | some v0 =>
    cases h1 : w.cell? (a.add 1) with
    | none => rw [h0, h1] at h; simp at h
    | some v1 =>
      rw [h0, h1] at h
      simp at h
      exact ⟨v0, v1, h.symm, rfl, rfl⟩

theorem open_isops {H : Type} {enc : TypeId × Value → H} {W : World} {a : Option Addr} {len cap : Nat} {d : DataW H} {p : List MemPlace}
    (h : DataW.Trod enc Try.prog W 0 (fun _ => true) true 33 (.slice a len cap) d p) : ∃ z, IsOps W a len z := by
  obtain ⟨fuel, hf⟩ := h
  have hc4 : Try.prog.cellsOf 37 = 2 := by kernel_rfl
  rcases Go.Deep.open_slice Try.underlying33 hf with ⟨hcs, _⟩ | ⟨x, l, c, m, n, D, Pl, hcs, _, hl, hm, hmm, _, hel⟩
  · simp [Value.cells] at hcs
    obtain ⟨rfl, rfl, rfl⟩ := hcs
    exact ⟨fun _ => default, fun h => absurd h (Nat.lt_irrefl _)⟩
  · simp [Value.cells] at hcs
    obtain ⟨rfl, rfl, rfl⟩ := hcs
    simp only [if_true] at hmm
    subst hmm
    rw [hc4] at hel
    have hc3 : Try.prog.cellsOf 3 = 1 := by kernel_rfl
    have one : ∀ i, i < m → ∃ y : OpR, W.cell? (x.add (i * 2)) = some (.int .i64 y.kind) ∧ W.cell? ((x.add (i * 2)).add 1) = some (.int .i64 y.g) := by
      intro i hi
      obtain ⟨cs, hcs, ht⟩ := hel i hi
      obtain ⟨v0, v1, rfl, e0, e1⟩ := cells2 hcs
      obtain ⟨y0, y1, k, _, _, t0, t1⟩ := trod_struct2 Try.underlying37 ht
      simp only [hc3] at t0 t1
      obtain ⟨n0, h0, _⟩ := DataW.trod_int Try.underlying3 t0
      obtain ⟨n1, h1, _⟩ := DataW.trod_int Try.underlying3 t1
      simp at h0 h1
      subst h0 h1
      exact ⟨⟨n0, n1⟩, by simpa [Addr.add] using e0, e1⟩
    obtain ⟨z, hz⟩ := Go.Deep.choose_lt one
    refine ⟨z, fun hp => ?_⟩
    obtain ⟨b, off, spot⟩ := x
    have hc := (hz 0 (by omega)).1
    have hspot : spot = none := by simpa [Addr.add] using World.cell?_spot hc
    subst hspot
    refine ⟨b, off, rfl, ?_, fun j hj => ?_⟩
    · have := World.block_lt_of_cell? W _ hc
      simpa [Addr.add] using this
    · have := hz j (by omega)
      simp only [Addr.add_lit] at this
      exact this

theorem open_isints {H : Type} {enc : TypeId × Value → H} {W : World} {a : Option Addr} {len cap : Nat} {d : DataW H} {p : List MemPlace}
    (h : DataW.Trod enc Try.prog W 0 (fun _ => true) true 23 (.slice a len cap) d p) : ∃ zs, IsInts W a len zs := by
  obtain ⟨fuel, hf⟩ := h
  rcases open_ints Try.underlying23 Try.underlying3 (by kernel_rfl) hf with ⟨hcs, _⟩ | ⟨x, l, c, zs, hcs, _, hl, hm, hz, _, hcell, _⟩
  · simp [Value.cells] at hcs
    obtain ⟨rfl, rfl, rfl⟩ := hcs
    exact ⟨[], rfl, fun h => by omega⟩
  · simp [Value.cells] at hcs
    obtain ⟨rfl, rfl, rfl⟩ := hcs
    have hz' : zs.length = cap := by simpa using hz
    refine ⟨zs.take len, by simp; omega, fun hp => ?_⟩
    obtain ⟨b, off, spot⟩ := x
    have hc := hcell 0 (by omega)
    have hspot : spot = none := by simpa [Addr.add] using World.cell?_spot hc
    subst hspot
    refine ⟨b, off, rfl, ?_, fun j hj => ?_⟩
    · have := World.block_lt_of_cell? W _ hc
      simpa [Addr.add] using this
    · have := hcell j (by omega)
      rw [Addr.add_lit] at this
      rw [this]
      congr 2
      simp only [List.getD]
      rw [List.getElem?_take, if_pos hj]
end Go.Proofs.Ytpbpnoohbfchgaa
