/- code: the reader's next by contract. -/
import Derived.Test.YtedgeoigapilnaaWrong
namespace Go.Proofs.Ytedgeoigapilnaa
open Go.RowKit

/-- '.slice a n _' reads as the bytes zs. -/
structure IsBytes (w : World) (a : Option Addr) (n : Nat) (zs : List Int) : Prop where
  len : zs.length = n
  range : ∀ z ∈ zs, 0 ≤ z ∧ z < 256
  at_ : ∀ j, j < n → ∃ b off, a = some ⟨b, off, none⟩ ∧ b < w.heap.size ∧ w.cell? ⟨b, off + j, none⟩ = some (.int .u8 (zs.getD j 0))
theorem IsBytes.later {w w' : World} {a : Option Addr} {n : Nat} {zs : List Int} {D : Nat → Prop} (h : IsBytes w a n zs) (t : Turns D w w') (hD : ∀ b o, a = some ⟨b, o, none⟩ → ¬ D b) : IsBytes w' a n zs := by
  refine ⟨h.len, h.range, fun j hj => ?_⟩
  obtain ⟨b, off, ha, hb, hc⟩ := h.at_ j hj
  exact ⟨b, off, ha, Nat.lt_of_lt_of_le hb t.size, t.cell hc (hD b off ha)⟩

/-- What is thrown at a byte that is wrong. -/
def thrown (at_ : Int) : List PanicEntry := [{ v := .iface 51 (.agg #[.int .i64 at_]), recovered := false }]

theorem IsBytes.bound {w : World} {a : Option Addr} {n : Nat} {zs : List Int} (h : IsBytes w a n zs) (j : Nat) (hj : j < n) : 0 ≤ zs.getD j 0 ∧ zs.getD j 0 < 256 := by
  have hl := h.len
  rw [List.getD_eq_getElem?_getD, List.getElem?_eq_getElem (by omega)]
  exact h.range _ (List.getElem_mem _)

set_option maxHeartbeats 1000000 in
theorem next_out {w : World} {rb n cap : Nat} {a : Option Addr} (i : Int) (R : Row w rb 55 [.slice a n cap, .int .i64 i]) (l m : Int) (hi : (n : Int) ≤ i) :
    Calls Try.prog 20 #[.pointer (some ⟨rb, 0, none⟩), .int .i64 l, .int .i64 m] w fun e w' => e = .panicked (thrown n) ∧ Turns (fun _ => False) w w' := by
  have c0 := R.cell 0 _ rfl
  have c1 := R.cell 1 _ rfl
  go_enter Try.func20, Try.ntmps20
  go_wp2_with fail
  go_quiet (fail)
  go_wp2_with fail
  exact ⟨rfl, rfl, drewN_turns w nq⟩

set_option maxHeartbeats 1000000 in
theorem next_low {w : World} {rb n cap : Nat} {a : Option Addr} {zs : List Int} (i : Nat) (R : Row w rb 55 [.slice a n cap, .int .i64 i]) (B : IsBytes w a n zs) (l m : Int) (hi : i < n) (hv : zs.getD i 0 < l ∨ m < zs.getD i 0) :
    Calls Try.prog 20 #[.pointer (some ⟨rb, 0, none⟩), .int .i64 l, .int .i64 m] w fun e w' => e = .panicked (thrown i) ∧ Turns (fun _ => False) w w' := by
  have c0 := R.cell 0 _ rfl
  have c1 := R.cell 1 _ rfl
  obtain ⟨r1, r2⟩ := B.bound i hi
  obtain ⟨b, off, rfl, hb, hc⟩ := B.at_ i hi
  generalize zs.getD i 0 = v at hc hv r1 r2
  have f1 : decide (n ≤ i) = false := by simp; omega
  rcases hv with hv | hv
  · go_enter Try.func20, Try.ntmps20
    go_wp2_with fail
    go_quiet (fail)
    go_wp2_with fail
    go_quiet (fail)
    go_wp2_with fail
    exact ⟨rfl, rfl, drewN_turns w _⟩
  · by_cases h2 : v < l
    · go_enter Try.func20, Try.ntmps20
      go_wp2_with fail
      go_quiet (fail)
      go_wp2_with fail
      go_quiet (fail)
      go_wp2_with fail
      exact ⟨rfl, rfl, drewN_turns w _⟩
    · go_enter Try.func20, Try.ntmps20
      go_wp2_with fail
      go_quiet (fail)
      go_wp2_with fail
      go_quiet (fail)
      go_wp2_with fail
      exact ⟨rfl, rfl, drewN_turns w _⟩

set_option maxHeartbeats 1000000 in
theorem next_ok {w : World} {rb n cap : Nat} {a : Option Addr} {zs : List Int} (i : Nat) (R : Row w rb 55 [.slice a n cap, .int .i64 i]) (B : IsBytes w a n zs) (l m : Int) (hi : i < n) (hn : n ≤ 1000000) (hv : ¬ (zs.getD i 0 < l)) (hm : ¬ (m < zs.getD i 0)) :
    Calls Try.prog 20 #[.pointer (some ⟨rb, 0, none⟩), .int .i64 l, .int .i64 m] w fun e w' => e = .returned (.int .i64 (zs.getD i 0)) ∧ Row w' rb 55 [.slice a n cap, .int .i64 ((i : Int) + 1)] ∧ Turns (fun x => x = rb) w w' := by
  have c0 := R.cell 0 _ rfl
  have c1 := R.cell 1 _ rfl
  have f1' := R.free 1
  obtain ⟨r1, r2⟩ := B.bound i hi
  obtain ⟨b, off, rfl, hb, hc⟩ := B.at_ i hi
  generalize zs.getD i 0 = v at hc hv hm r1 r2 ⊢
  have f1 : decide (n ≤ i) = false := by simp; omega
  go_enter Try.func20, Try.ntmps20
  go_wp2_with fail
  go_quiet (fail)
  go_wp2_with fail
  go_quiet (fail)
  go_wp2_with fail
  go_ret
  refine ⟨rfl, ?_, (Turns.mono (drewN_turns w _) (fun _ x _ => x.elim)).setCell (D := fun x => x = rb) (p := ⟨rb, 1, none⟩) (Or.inl rfl) _⟩
  exact (R.later (drewN_turns w _) (fun x => x)).set 1 _
end Go.Proofs.Ytedgeoigapilnaa
