/- A slice of Ops that came in reads as a list. -/
import Derived.Test.YtilcdoilmdcpbaaBase
import Derived.ProofKit
import Derived.OpenShut
import Derived.ChangeOld
import Derived.Deep.Slices
import Derived.Lib.SmallJoins
namespace Go.Proofs.Ytilcdoilmdcpbaa
open Go.ChangeShapes Go.WideShapes Go.ChangeAt Go.RowKit

structure OpR where
  kind : Int
  p : Int
  e : Bool
  f : Bool
instance : Inhabited OpR := ⟨⟨0, 0, false, false⟩⟩

def OpAt (w : World) (b o : Nat) (x : OpR) : Prop :=
  w.cell? ⟨b, o, none⟩ = some (.int .i64 x.kind) ∧ w.cell? ⟨b, o + 1, none⟩ = some (.int .i64 x.p) ∧ w.cell? ⟨b, o + 2, none⟩ = some (.bool x.e) ∧ w.cell? ⟨b, o + 3, none⟩ = some (.bool x.f)

/-- '.slice a n _' reads as the Ops z. -/
def IsOps (w : World) (a : Option Addr) (n : Nat) (z : Nat → OpR) : Prop :=
  0 < n → ∃ b off, a = some ⟨b, off, none⟩ ∧ b < w.heap.size ∧ ∀ j, j < n → OpAt w b (off + j * 4) (z j)

theorem cells4 {w : World} {a : Addr} {cs : List Value} (h : w.cells? 0 a 4 = some cs) : ∃ v0 v1 v2 v3, cs = [v0, v1, v2, v3] ∧ w.cell? (a.add 0) = some v0 ∧ w.cell? (a.add 1) = some v1 ∧ w.cell? (a.add 2) = some v2 ∧ w.cell? (a.add 3) = some v3 := by
  have e : List.range 4 = [0, 1, 2, 3] := rfl
  simp only [World.cells?, Nat.zero_le, if_true, e, List.mapM_cons, List.mapM_nil] at h
  cases h0 : w.cell? (a.add 0) with
  | none => rw [h0] at h; simp at h
  | some v0 =>
    cases h1 : w.cell? (a.add 1) with
    | none => rw [h0, h1] at h; simp at h
    | some v1 =>
      cases h2 : w.cell? (a.add 2) with
      | none => rw [h0, h1, h2] at h; simp at h
      | some v2 =>
        cases h3 : w.cell? (a.add 3) with
        | none => rw [h0, h1, h2, h3] at h; simp at h
        | some v3 =>
          rw [h0, h1, h2, h3] at h
          simp at h
          exact ⟨v0, v1, v2, v3, h.symm, rfl, rfl, rfl, rfl⟩

theorem open_isops {H : Type} {enc : TypeId × Value → H} {W : World} {a : Option Addr} {len cap : Nat} {d : DataW H} {p : List MemPlace}
    (h : DataW.Trod enc Try.prog W 0 (fun _ => true) true 22 (.slice a len cap) d p) : ∃ z, IsOps W a len z := by
  obtain ⟨fuel, hf⟩ := h
  have hc4 : Try.prog.cellsOf 31 = 4 := by kernel_rfl
  rcases Go.Deep.open_slice Try.underlying22 hf with ⟨hcs, _⟩ | ⟨x, l, c, m, n, D, Pl, hcs, _, hl, hm, hmm, _, hel⟩
  · simp [Value.cells] at hcs
    obtain ⟨rfl, rfl, rfl⟩ := hcs
    exact ⟨fun _ => default, fun h => absurd h (Nat.lt_irrefl _)⟩
  · simp [Value.cells] at hcs
    obtain ⟨rfl, rfl, rfl⟩ := hcs
    simp only [if_true] at hmm
    subst hmm
    rw [hc4] at hel
    have hc3 : Try.prog.cellsOf 3 = 1 := by kernel_rfl
    have hcb : Try.prog.cellsOf 4 = 1 := by kernel_rfl
    have one : ∀ i, i < m → ∃ y : OpR, W.cell? (x.add (i * 4)) = some (.int .i64 y.kind) ∧ W.cell? ((x.add (i * 4)).add 1) = some (.int .i64 y.p) ∧ W.cell? ((x.add (i * 4)).add 2) = some (.bool y.e) ∧ W.cell? ((x.add (i * 4)).add 3) = some (.bool y.f) := by
      intro i hi
      obtain ⟨cs, hcs, ht⟩ := hel i hi
      obtain ⟨v0, v1, v2, v3, rfl, e0, e1, e2, e3⟩ := cells4 hcs
      obtain ⟨y0, y1, y2, y3, k, _, _, t0, t1, t2, t3⟩ := Go.Joins.trod_struct4 Try.underlying31 ht
      simp only [hc3, hcb] at t0 t1 t2 t3
      obtain ⟨n0, h0, _⟩ := DataW.trod_int Try.underlying3 t0
      obtain ⟨n1, h1, _⟩ := DataW.trod_int Try.underlying3 t1
      obtain ⟨b2, h2, _⟩ := DataW.trod_bool Try.underlying4 t2
      obtain ⟨b3, h3, _⟩ := DataW.trod_bool Try.underlying4 t3
      simp at h0 h1 h2 h3
      subst h0 h1 h2 h3
      exact ⟨⟨n0, n1, b2, b3⟩, by simpa [Addr.add] using e0, e1, e2, e3⟩
    obtain ⟨z, hz⟩ := Go.Deep.choose_lt one
    refine ⟨z, fun hp => ?_⟩
    obtain ⟨b, off, spot⟩ := x
    have hc := (hz 0 (by omega)).1
    have hspot : spot = none := by simpa [Addr.add] using World.cell?_spot hc
    subst hspot
    refine ⟨b, off, rfl, ?_, fun j hj => ?_⟩
    · have := World.block_lt_of_cell? W _ hc
      simpa [Addr.add] using this
    · have := hz j (by omega)
      simp only [Addr.add_lit] at this
      exact this
end Go.Proofs.Ytilcdoilmdcpbaa
