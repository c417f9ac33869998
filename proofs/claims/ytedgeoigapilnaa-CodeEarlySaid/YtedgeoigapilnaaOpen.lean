/- code: a program, a slice of bytes that came in, read as lists. -/
import Derived.Test.YtedgeoigapilnaaPrg
import Derived.ProofKit
import Derived.OpenShut
import Derived.ChangeOld
import Derived.ChangeSame
import Derived.Deep.Slices
import Derived.Lib.SmallJoins
namespace Go.Proofs.Ytedgeoigapilnaa
open Go.ChangeShapes Go.WideShapes Go.ChangeAt Go.RowKit

/-- v reads as the program p. -/
def IsProg (w : World) (v : Value) (p : Pr) : Prop := ∃ fv, v = .agg #[.int .i64 p.g, fv] ∧ (Lit.int .i64 p.g).wf = true ∧ Funcs w fv p.fs

theorem cells4 {w : World} {a : Addr} {cs : List Value} (h : w.cells? 0 a 4 = some cs) : ∃ v0 v1 v2 v3, cs = [v0, v1, v2, v3] ∧ w.cell? (a.add 0) = some v0 ∧ w.cell? (a.add 1) = some v1 ∧ w.cell? (a.add 2) = some v2 ∧ w.cell? (a.add 3) = some v3 := by
  have e : List.range 4 = [0, 1, 2, 3] := rfl
  simp only [World.cells?, Nat.zero_le, if_true, e, List.mapM_cons, List.mapM_nil] at h
  cases h0 : w.cell? (a.add 0) with
  | none => rw [h0] at h; simp at h
  | some v0 =>
    cases h1 : w.cell? (a.add 1) with
    | none => rw [h0, h1] at h; simp at h
    | some v1 =>
      cases h2 : w.cell? (a.add 2) with
      | none => rw [h0, h1, h2] at h; simp at h
      | some v2 =>
        cases h3 : w.cell? (a.add 3) with
        | none => rw [h0, h1, h2, h3] at h; simp at h
        | some v3 =>
          rw [h0, h1, h2, h3] at h
          simp at h
          exact ⟨v0, v1, v2, v3, h.symm, rfl, rfl, rfl, rfl⟩

theorem range_map_at {α : Type} (n : Nat) (f : Nat → α) (j : Nat) (x : α) (h : ((List.range n).map f)[j]? = some x) : j < n ∧ x = f j := by
  rw [List.getElem?_map] at h
  rcases Nat.lt_or_ge j n with hj | hj
  · rw [List.getElem?_range hj] at h
    exact ⟨hj, by simpa using h.symm⟩
  · rw [List.getElem?_eq_none (by simpa using hj)] at h
    cases h

theorem open_insts {H : Type} {enc : TypeId × Value → H} {W : World} {u : Value} {fuel : Nat} {y : DataW H × List MemPlace}
    (hf : DataW.trod enc Try.prog W 0 (fun _ => true) true fuel 38 [u] = some y) : ∃ l, Insts W u l := by
  have hc4 : Try.prog.cellsOf 37 = 4 := by kernel_rfl
  have hc3 : Try.prog.cellsOf 3 = 1 := by kernel_rfl
  rcases Go.Deep.open_slice Try.underlying38 hf with ⟨hcs, _⟩ | ⟨x, l, c, m, n, D, Pl, hcs, _, hl, hm, hmm, _, hel⟩
  · simp at hcs
    subst hcs
    exact ⟨[], by simp [maxLen], none, 0, rfl, fun j x h => by simp at h⟩
  · simp at hcs
    subst hcs
    simp only [if_true] at hmm
    subst hmm
    rw [hc4] at hel
    have one : ∀ i, i < m → ∃ z : In, W.cell? (x.add (i * 4)) = some (.int .i64 z.op) ∧ W.cell? ((x.add (i * 4)).add 1) = some (.int .i64 z.a) ∧ W.cell? ((x.add (i * 4)).add 2) = some (.int .i64 z.b) ∧ W.cell? ((x.add (i * 4)).add 3) = some (.int .i64 z.c) := by
      intro i hi
      obtain ⟨cs, hcs, ht⟩ := hel i hi
      obtain ⟨v0, v1, v2, v3, rfl, e0, e1, e2, e3⟩ := cells4 hcs
      obtain ⟨y0, y1, y2, y3, k, _, _, t0, t1, t2, t3⟩ := Go.Joins.trod_struct4 Try.underlying37 ht
      simp only [hc3] at t0 t1 t2 t3
      obtain ⟨n0, h0, _⟩ := DataW.trod_int Try.underlying3 t0
      obtain ⟨n1, h1, _⟩ := DataW.trod_int Try.underlying3 t1
      obtain ⟨n2, h2, _⟩ := DataW.trod_int Try.underlying3 t2
      obtain ⟨n3, h3, _⟩ := DataW.trod_int Try.underlying3 t3
      simp at h0 h1 h2 h3
      subst h0 h1 h2 h3
      exact ⟨⟨n0, n1, n2, n3⟩, by simpa [Addr.add] using e0, e1, e2, e3⟩
    obtain ⟨z, hz⟩ := Go.Deep.choose_lt one
    refine ⟨(List.range l).map z, by simp only [List.length_map, List.length_range]; omega, some x, m, by simp, fun j w hj => ?_⟩
    obtain ⟨hjl, rfl⟩ := range_map_at _ _ _ _ hj
    obtain ⟨b, off, spot⟩ := x
    have hspot : spot = none := by simpa [Addr.add] using World.cell?_spot (hz 0 (by omega)).1
    subst hspot
    refine ⟨b, off, rfl, fun i u hu => ?_⟩
    obtain ⟨c0, c1, c2, c3⟩ := hz j (by omega)
    simp only [Addr.add_lit] at c0 c1 c2 c3
    match i, hu with
    | 0, hu => simp [ic] at hu; subst hu; exact c0
    | 1, hu => simp [ic] at hu; subst hu; exact c1
    | 2, hu => simp [ic] at hu; subst hu; exact c2
    | 3, hu => simp [ic] at hu; subst hu; exact c3
    | i + 4, hu => simp [ic] at hu

theorem open_funcs {H : Type} {enc : TypeId × Value → H} {W : World} {u : Value} {fuel : Nat} {y : DataW H × List MemPlace}
    (hf : DataW.trod enc Try.prog W 0 (fun _ => true) true fuel 22 [u] = some y) : ∃ fs, Funcs W u fs := by
  have hc1 : Try.prog.cellsOf 38 = 1 := by kernel_rfl
  rcases Go.Deep.open_slice1 Try.underlying22 hc1 hf with ⟨hcs, _⟩ | ⟨x, l, c, m, n, V, D, Pl, hcs, _, hl, hm, hmm, _, hel⟩
  · simp at hcs
    subst hcs
    exact ⟨[], Funcs.nil _ _ _⟩
  · simp at hcs
    subst hcs
    simp only [if_true] at hmm
    subst hmm
    have one : ∀ i, i < m → ∃ z : List In, W.cell? (x.add i) = some (V i) ∧ Insts W (V i) z := by
      intro i hi
      obtain ⟨e, ht⟩ := hel i hi
      obtain ⟨z, hz⟩ := open_insts ht
      exact ⟨z, e, hz⟩
    obtain ⟨z, hz⟩ := Go.Deep.choose_lt one
    refine ⟨(List.range l).map z, by simp only [List.length_map, List.length_range]; omega, some x, m, by simp, fun j w hj => ?_⟩
    obtain ⟨hjl, rfl⟩ := range_map_at _ _ _ _ hj
    obtain ⟨b, off, spot⟩ := x
    obtain ⟨e, hi⟩ := hz j (by omega)
    have hspot : spot = none := by simpa [Addr.add] using World.cell?_spot (hz 0 (by omega)).1
    subst hspot
    simp only [Addr.add_lit] at e
    exact ⟨b, off, V j, rfl, e, hi⟩

theorem open_prog {H : Type} {enc : TypeId × Value → H} {W : World} {base : Nat} {v : Value} {d : DataW H} {p : List MemPlace}
    (hv : Value.okWide Try.prog W .any base 24 v) (h : DataW.Trod enc Try.prog W 0 (fun _ => true) true 24 v d p) : ∃ z, IsProg W v z := by
  obtain ⟨v0, v1, y0, y1, n, rfl, _, _, t0, t1⟩ := Go.Joins.open_agg2 Try.underlying24 (by kernel_rfl) (by kernel_rfl) hv h
  obtain ⟨g, h0, _, wg⟩ := DataW.trod_int Try.underlying3 t0
  simp at h0
  subst h0
  obtain ⟨fs, hF⟩ := open_funcs t1
  exact ⟨⟨g, fs⟩, v1, rfl, wg, hF⟩
theorem u8_range {n : Int} (h : (Lit.int .u8 n).wf = true) : 0 ≤ n ∧ n < 256 := by
  have e0 : IntKind.u8.min = 0 := by decide
  have e1 : IntKind.u8.max = 255 := by decide
  simp [Lit.wf, e0, e1] at h
  omega
theorem open_isbytes {H : Type} {enc : TypeId × Value → H} {W : World} {a : Option Addr} {len cap : Nat} {d : DataW H} {p : List MemPlace}
    (h : DataW.Trod enc Try.prog W 0 (fun _ => true) true 27 (.slice a len cap) d p) : ∃ zs, IsBytes W a len zs := by
  obtain ⟨fuel, hf⟩ := h
  rcases open_ints Try.underlying27 Try.underlying5 (by kernel_rfl) hf with ⟨hcs, _⟩ | ⟨x, l, c, zs, hcs, _, hl, hm, hz, _, hcell, hwf⟩
  · simp [Value.cells] at hcs
    obtain ⟨rfl, rfl, rfl⟩ := hcs
    exact ⟨[], rfl, fun z hz => by simp at hz, fun j h => by omega⟩
  · simp [Value.cells] at hcs
    obtain ⟨rfl, rfl, rfl⟩ := hcs
    have hz' : zs.length = cap := by simpa using hz
    refine ⟨zs.take len, by simp; omega, fun z hz => u8_range (hwf z (List.mem_of_mem_take hz)), fun j hj => ?_⟩
    obtain ⟨b, off, spot⟩ := x
    have hc := hcell 0 (by omega)
    have hspot : spot = none := by simpa [Addr.add] using World.cell?_spot hc
    subst hspot
    refine ⟨b, off, rfl, ?_, ?_⟩
    · have := World.block_lt_of_cell? W _ hc
      simpa [Addr.add] using this
    · have := hcell j (by omega)
      rw [Addr.add_lit] at this
      rw [this]
      congr 2
      simp only [List.getD]
      rw [List.getElem?_take, if_pos hj]
end Go.Proofs.Ytedgeoigapilnaa
