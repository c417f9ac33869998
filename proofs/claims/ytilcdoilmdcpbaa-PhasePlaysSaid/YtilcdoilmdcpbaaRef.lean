/- The reference's phases by contracts; what both are, in plain Lean. -/
import Derived.Test.YtilcdoilmdcpbaaRounds
namespace Go.Proofs.Ytilcdoilmdcpbaa
open Go.RowKit

/-- Where a collector stands. -/
structure S where
  ph : Int
  cy : Int
  l : List Bool
  rs : Int

/-- How many have said so. -/
def cnt (l : List Bool) : Nat := (l.filter id).length
def allSaid (l : List Bool) : Bool := l.all id
def someSaid (l : List Bool) : Bool := l.any id

theorem cnt_le (l : List Bool) : cnt l ≤ l.length := List.length_filter_le _ _
theorem cnt_all (l : List Bool) : (cnt l = l.length) ↔ allSaid l = true := by
  induction l with
  | nil => simp [cnt, allSaid]
  | cons x r ih =>
    have := cnt_le r
    cases x
    · have e : cnt (false :: r) = cnt r := rfl
      constructor
      · intro h; exfalso
        rw [e, List.length_cons] at h
        omega
      · intro h; simp [allSaid] at h
    · have e : cnt (true :: r) = cnt r + 1 := rfl
      have e2 : allSaid (true :: r) = allSaid r := rfl
      rw [e, e2, List.length_cons, ← ih]
      omega
theorem cnt_some (l : List Bool) : (0 < cnt l) ↔ someSaid l = true := by
  induction l with
  | nil => simp [cnt, someSaid]
  | cons x r ih =>
    cases x
    · simp only [cnt, someSaid, List.filter_cons, id, Bool.false_eq_true, if_false, List.any_cons, Bool.false_or] at ih ⊢
      exact ih
    · simp [cnt, someSaid]
theorem cnt_none (n : Nat) : cnt (List.replicate n false) = 0 := by
  induction n with
  | zero => rfl
  | succ n ih => simp [cnt, List.replicate_succ]
theorem cnt_set (l : List Bool) (p : Nat) (h : p < l.length) : cnt (l.set p true) = if l.getD p false then cnt l else cnt l + 1 := by
  induction l generalizing p with
  | nil => simp at h
  | cons x r ih =>
    cases p with
    | zero => cases x <;> simp [cnt]
    | succ p =>
      have := ih p (by simpa using h)
      simp only [List.set_cons_succ, List.getD_cons_succ]
      cases x
      · simp only [cnt, List.filter_cons, id, Bool.false_eq_true, if_false] at this ⊢
        exact this
      · simp only [cnt, List.filter_cons, id, if_true, List.length_cons] at this ⊢
        rw [this]; split <;> rfl

/-- What each call answers and makes of it. -/
def beginF (s : S) : Int × S := if s.ph = 0 then (0, ⟨1, s.cy + 1, List.replicate s.l.length false, 0⟩) else (5, s)
def termF (s : S) : Int × S := if s.ph = 1 ∧ allSaid s.l = true then (0, { s with ph := 2 }) else (5, s)
def sweepF (s : S) : Int × S := if s.ph = 2 then (0, { s with ph := 3 }) else (5, s)
def endF (s : S) : Int × S := if s.ph = 3 then (0, { s with ph := 0 }) else (5, s)
def sayF (s : S) (p : Int) (e f : Bool) : Int × S :=
  if p < 0 ∨ (s.l.length : Int) ≤ p then (1, s) else if s.ph ≠ 1 then (5, s) else
    if e && !f then (0, { s with l := s.l.set p.toNat true }) else (0, { s with l := List.replicate s.l.length false, rs := if someSaid s.l then s.rs + 1 else s.rs })

/-- Block b is the program's phases at s. -/
abbrev PhS (w : World) (b g : Nat) (s : S) : Prop := PhB w b g s.ph s.cy s.l (cnt s.l) s.rs
def UniS (f : Nat) (args : Array Value) (w : World) (b g : Nat) (r : Int × S) : Prop :=
  Calls Try.prog f args w fun e w' => e = .returned (.int .i64 r.1) ∧ PhS w' b g r.2 ∧ Turns (DB b g) w w'

section
variable {w : World} {b g : Nat} {s : S}
theorem qt_cnt (s : S) : qt s.ph (cnt s.l) s.l.length = (decide (s.ph = 1) && allSaid s.l) := by
  unfold qt
  rw [Bool.eq_iff_iff]
  simp only [decide_eq_true_eq, Bool.and_eq_true, ← cnt_all]
  omega
theorem s_begin (h : PhS w b g s) (hc : 0 ≤ s.cy ∧ s.cy ≤ 1000) : UniS 7 #[.pointer (some ⟨b, 0, none⟩)] w b g (beginF s) := by
  unfold beginF
  split
  · rename_i h0
    have h' : PhB w b g 0 s.cy s.l (cnt s.l) s.rs := by rw [← h0]; exact h
    have := u_begin_ok h' (by omega)
    unfold UniS PhS
    simp only [cnt_none]
    exact this
  · exact u_begin_no h ‹_›
theorem s_term (h : PhS w b g s) : UniS 12 #[.pointer (some ⟨b, 0, none⟩)] w b g (termF s) := by
  unfold termF
  split
  · rename_i h0
    exact u_term_ok h (by rw [qt_cnt, h0.2]; simp [h0.1])
  · rename_i h0
    refine u_term_no h ?_
    rw [qt_cnt]
    cases ha : allSaid s.l
    · simp
    · simp only [Bool.and_true, decide_eq_false_iff_not]; intro hp; exact h0 ⟨hp, ha⟩
theorem s_sweep (h : PhS w b g s) : UniS 16 #[.pointer (some ⟨b, 0, none⟩)] w b g (sweepF s) := by
  unfold sweepF
  split
  · rename_i h0
    have h' : PhB w b g 2 s.cy s.l (cnt s.l) s.rs := by rw [← h0]; exact h
    exact u_sweep_ok h'
  · exact u_sweep_no h ‹_›
theorem s_end (h : PhS w b g s) : UniS 14 #[.pointer (some ⟨b, 0, none⟩)] w b g (endF s) := by
  unfold endF
  split
  · rename_i h0
    have h' : PhB w b g 3 s.cy s.l (cnt s.l) s.rs := by rw [← h0]; exact h
    exact u_end_ok h'
  · exact u_end_no h ‹_›
theorem s_say (p : Int) (e f : Bool) (h : PhS w b g s) (hr : 0 ≤ s.rs ∧ s.rs ≤ 1000) : UniS 9 #[.pointer (some ⟨b, 0, none⟩), .int .i64 p, .bool e, .bool f] w b g (sayF s p e f) := by
  have hlen := h.len
  have hcl := cnt_le s.l
  unfold sayF
  split
  · exact u_say_out p e f h ‹_›
  · split
    · exact u_say_no (l := s.l) p e f h (by omega) (by omega) ‹_›
    · rename_i h1 h2
      have h0 : s.ph = 1 := by omega
      have h' : PhB w b g 1 s.cy s.l (cnt s.l) s.rs := by rw [← h0]; exact h
      split
      · rename_i hef
        refine Calls.mono (u_say_ok p e f h' (by omega) (by omega) (by omega) (by omega) _ _ _ rfl rfl rfl) ?_
        rintro e' w' ⟨rfl, h2, h3⟩
        refine ⟨rfl, ?_, h3⟩
        unfold sayL sayC sayR at h2
        rw [hef] at h2
        simp only [if_true] at h2
        have hcs := cnt_set s.l p.toNat (by omega)
        have e2 : ((cnt (s.l.set p.toNat true) : Nat) : Int) = if s.l.getD p.toNat false = true then (cnt s.l : Int) else (cnt s.l : Int) + 1 := by rw [hcs]; split <;> simp
        show PhB w' b g s.ph s.cy (s.l.set p.toNat true) ((cnt (s.l.set p.toNat true) : Nat) : Int) s.rs
        rw [e2, h0]
        exact h2
      · rename_i hef
        have hef' : (e && !f) = false := by simpa using hef
        refine Calls.mono (u_say_ok p e f h' (by omega) (by omega) (by omega) (by omega) _ _ _ rfl rfl rfl) ?_
        rintro e' w' ⟨rfl, h2, h3⟩
        refine ⟨rfl, ?_, h3⟩
        unfold sayL sayC sayR at h2
        rw [hef'] at h2
        simp only [Bool.false_eq_true, if_false] at h2
        show PhB w' b g s.ph s.cy (List.replicate s.l.length false) ((cnt (List.replicate s.l.length false) : Nat) : Int) (if someSaid s.l then s.rs + 1 else s.rs)
        rw [cnt_none, h0]
        have e3 : (if someSaid s.l then s.rs + 1 else s.rs) = if (0 : Int) < (cnt s.l : Int) then s.rs + 1 else s.rs := by
          by_cases hs : someSaid s.l = true
          · rw [if_pos hs, if_pos (by have := (cnt_some s.l).2 hs; omega)]
          · rw [if_neg hs, if_neg (by intro hx; exact hs ((cnt_some s.l).1 (by omega)))]
        rw [e3]
        exact h2
end
end Go.Proofs.Ytilcdoilmdcpbaa
