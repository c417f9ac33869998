/- The methods of phase.Phases by contracts, the rest; phase.New. -/
import Derived.Test.YtilcdoilmdcpbaaPhase
namespace Go.Proofs.Ytilcdoilmdcpbaa
open Go.RowKit

section
variable {w : World} {b g : Nat} {ph cy ct rs : Int} {l : List Bool}

theorem term_no (h : PhB w b g ph cy l ct rs) (hq : qt ph ct l.length = false) : Calls Try.prog 12 #[.pointer (some ⟨b, 0, none⟩)] w fun e' w' => e' = .returned (.int .i64 5) ∧ ∃ q, w' = w.drewN q := by
  have Q := quiet_any h
  rw [hq] at Q
  clear h hq
  go_enter Try.func12, Try.ntmps12
  go_wp2_with fail
  refine Q.mono ?_
  rintro e w' ⟨rfl, q, rfl⟩
  go_wp2_with fail
  go_ret
  exact ⟨rfl, _, rfl⟩

theorem term_ok (h : PhB w b g ph cy l ct rs) (hq : qt ph ct l.length = true) : Calls Try.prog 12 #[.pointer (some ⟨b, 0, none⟩)] w fun e' w' => e' = .returned (.int .i64 0) ∧ PhB w' b g 2 cy l ct rs ∧ Turns (DB b g) w w' := by
  have Q := quiet_any h
  rw [hq] at Q
  have hp : ph = 1 := by unfold qt at hq; simp at hq; exact hq.1
  subst hp
  clear hq
  go_enter Try.func12, Try.ntmps12
  go_wp2_with fail
  refine Q.mono ?_
  rintro e w1 ⟨rfl, q, hq⟩
  have h1 : PhB w1 b g 1 cy l ct rs := by subst hq; exact h.drewN q
  have t1 : Turns (DB b g) w w1 := by subst hq; exact (Turns.refl _ _).drewN q
  have N := next_ok 1 h1 (by omega) (by omega)
  clear hq h h1 Q
  go_wp2_with fail
  refine N.mono ?_
  rintro e w2 ⟨rfl, h2, t2⟩
  have H := Lib.hid h2
  have T := Lib.hid (t1.then t2)
  clear h2 t1 t2 N
  go_wp2_with fail
  go_ret
  exact ⟨rfl, H.out, T.out⟩

theorem sweep_no (h : PhB w b g ph cy l ct rs) (hne : ph ≠ 2) : Calls Try.prog 16 #[.pointer (some ⟨b, 0, none⟩)] w fun e' w' => e' = .returned (.int .i64 5) ∧ w = w' := by
  have N := next_no 2 h hne
  clear h hne
  go_enter Try.func16, Try.ntmps16
  go_wp2_with fail
  refine N.mono ?_
  rintro e w' ⟨rfl, rfl⟩
  go_wp2_with fail
  go_ret
  exact ⟨rfl, rfl⟩

theorem sweep_ok (h : PhB w b g 2 cy l ct rs) : Calls Try.prog 16 #[.pointer (some ⟨b, 0, none⟩)] w fun e' w' => e' = .returned (.int .i64 0) ∧ PhB w' b g 3 cy l ct rs ∧ Turns (DB b g) w w' := by
  have N := next_ok 2 h (by omega) (by omega)
  clear h
  go_enter Try.func16, Try.ntmps16
  go_wp2_with fail
  refine N.mono ?_
  rintro e w2 ⟨rfl, h2, t2⟩
  have H := Lib.hid h2
  have T := Lib.hid t2
  clear h2 t2 N
  go_wp2_with fail
  go_ret
  exact ⟨rfl, H.out, T.out⟩

theorem end_no (h : PhB w b g ph cy l ct rs) (hne : ph ≠ 3) : Calls Try.prog 14 #[.pointer (some ⟨b, 0, none⟩)] w fun e' w' => e' = .returned (.int .i64 5) ∧ w = w' := by
  have N := next_no 3 h hne
  clear h hne
  go_enter Try.func14, Try.ntmps14
  go_wp2_with fail
  refine N.mono ?_
  rintro e w' ⟨rfl, rfl⟩
  go_wp2_with fail
  go_ret
  exact ⟨rfl, rfl⟩

theorem end_ok (h : PhB w b g 3 cy l ct rs) : Calls Try.prog 14 #[.pointer (some ⟨b, 0, none⟩)] w fun e' w' => e' = .returned (.int .i64 0) ∧ PhB w' b g 0 cy l ct rs ∧ Turns (DB b g) w w' := by
  have N := next_end h
  clear h
  go_enter Try.func14, Try.ntmps14
  go_wp2_with fail
  refine N.mono ?_
  rintro e w2 ⟨rfl, h2, t2⟩
  have H := Lib.hid h2
  have T := Lib.hid t2
  clear h2 t2 N
  go_wp2_with fail
  go_ret
  exact ⟨rfl, H.out, T.out⟩

theorem phase_any (h : PhB w b g ph cy l ct rs) : Calls Try.prog 13 #[.pointer (some ⟨b, 0, none⟩)] w fun e' w' => e' = .returned (.int .i64 ph) ∧ w = w' := by
  have c0 := h.c0
  clear h
  go_enter Try.func13, Try.ntmps13
  go_wp2
  go_ret
  exact ⟨rfl, rfl⟩
theorem cycle_any (h : PhB w b g ph cy l ct rs) : Calls Try.prog 18 #[.pointer (some ⟨b, 0, none⟩)] w fun e' w' => e' = .returned (.int .i64 cy) ∧ w = w' := by
  have c0 := h.c1
  clear h
  go_enter Try.func18, Try.ntmps18
  go_wp2
  go_ret
  exact ⟨rfl, rfl⟩
theorem restarts_any (h : PhB w b g ph cy l ct rs) : Calls Try.prog 11 #[.pointer (some ⟨b, 0, none⟩)] w fun e' w' => e' = .returned (.int .i64 rs) ∧ w = w' := by
  have c0 := h.c4
  clear h
  go_enter Try.func11, Try.ntmps11
  go_wp2
  go_ret
  exact ⟨rfl, rfl⟩
theorem phase_nil (w : World) : Calls Try.prog 13 #[.pointer none] w fun e' w' => e' = .returned (.int .i64 0) ∧ w = w' := by
  go_enter Try.func13, Try.ntmps13
  go_wp2
  go_ret
  exact ⟨rfl, rfl⟩
theorem cycle_nil (w : World) : Calls Try.prog 18 #[.pointer none] w fun e' w' => e' = .returned (.int .i64 0) ∧ w = w' := by
  go_enter Try.func18, Try.ntmps18
  go_wp2
  go_ret
  exact ⟨rfl, rfl⟩
end

theorem Try.info4 : (Try.prog.info? 4).map (fun i => (i.zero, i.size, i.bytes)) = some (some (.bool false), 1, 1) := by kernel_rfl

theorem row_of_made {w' : World} {B g n : Nat} (h : w'.ownsRow B 4 1 (.slice (some ⟨g, 0, none⟩) n n) n (madeCells #[Value.bool false] n).toList) : Row w' g 4 ((List.replicate n false).map Value.bool) := by
  obtain ⟨h1, h2⟩ := h
  rcases h2 with ⟨h2, _⟩ | ⟨g', cap, cur, hv, _, hh, _, _, hs, ht⟩
  · cases h2
  · injection hv with e1 e2 e3
    simp only [Option.some.injEq, Addr.mk.injEq] at e1
    obtain ⟨rfl, _⟩ := e1
    subst e3
    unfold Row
    rw [hh]
    have hl : cur.toList = (madeCells #[Value.bool false] n).toList := by
      rw [← ht, List.take_of_length_le (by simp [hs])]
    have e : cur = ((List.replicate n false).map Value.bool).toArray := by
      apply Array.ext'
      rw [hl]
      apply List.ext_getElem
      · simp [madeCells]
      · intro i a1 a2
        simp [madeCells, Nat.mod_one]
    rw [e]

theorem new_bad (ps : Int) (w : World) (h : ps < 1 ∨ 64 < ps) : Calls Try.prog 6 #[.int .i64 ps] w fun e' w' => e' = .returned (.tuple #[.pointer none, .int .i64 1]) ∧ w = w' := by
  rcases Int.lt_or_le ps 1 with h1 | h1
  · clear h
    go_enter Try.func6, Try.ntmps6
    go_wp2
    go_ret2
    exact ⟨rfl, rfl⟩
  · have h2 : 64 < ps := by omega
    clear h
    go_enter Try.func6, Try.ntmps6
    go_wp2
    go_ret2
    exact ⟨rfl, rfl⟩

set_option maxRecDepth 100000 in
theorem new_ok (n : Nat) (w : World) (h1 : 1 ≤ n) (h2 : n ≤ 64) : Calls Try.prog 6 #[.int .i64 (n : Int)] w fun e' w' => ∃ b g, e' = .returned (.tuple #[.pointer (some ⟨b, 0, none⟩), .int .i64 0]) ∧ PhB w' b g 0 0 (List.replicate n false) 0 0 ∧
    w.heap.size ≤ b ∧ w.heap.size ≤ g ∧ Turns (fun _ => False) w w' := by
  obtain ⟨i0, hi, hz0, hz1, hz2⟩ := info_parts Try.info4
  have h3 : (1 : Int) ≤ (n : Int) := by omega
  have h4 : (n : Int) ≤ 64 := by omega
  go_enter Try.func6, Try.ntmps6
  go_wp2_with (at_make; refine wpList_make_full _ rfl (.tmp 10) (.tmp 10) 29 rfl w.heap.size 4 i0 (.bool false) 1 Try.underlying29 hi hz0 hz1 _ _ _ _ n rfl rfl rfl rfl ?b1 ?b2 ?b3 ?_)
  case b1 => rw [hz2]; omega
  case b2 => unfold maxLen; omega
  case b3 => exact Nat.le_refl _
  intro w1 hown hg
  have hr := row_of_made hown
  have hl := hr.lt
  have T := Lib.hid ((Turns.refl (fun _ => False) w).grown hg (fun _ x => by cases x))
  have HR := Lib.hid hr
  clear hown hg hr
  go_wp2
  go_ret2
  refine ⟨w1.heap.size, w.heap.size, rfl, ⟨?_, HR.out.alloc _, by omega, by simp; omega⟩, by omega, Nat.le_refl _, T.out.alloc _⟩
  have := @heap_new w1 (.cells #[.int .i64 0, .int .i64 0, .slice (some ⟨w.heap.size, 0, none⟩) n n, .int .i64 0, .int .i64 0] 40) _ rfl
  unfold Row
  simpa using this
end Go.Proofs.Ytilcdoilmdcpbaa
