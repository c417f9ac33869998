/- The methods of phase.Phases by contracts. -/
import Derived.Test.YtilcdoilmdcpbaaBase
import Derived.StillTailTactics
import Derived.BigQuiet
import Derived.Deep.QuietTactic
namespace Go.Proofs.Ytilcdoilmdcpbaa
open Go.RowKit

/-- Block b is a collector's phases; block g what was said. -/
structure PhB (w : World) (b g : Nat) (ph cy : Int) (l : List Bool) (ct rs : Int) : Prop where
  row : Row w b 40 [.int .i64 ph, .int .i64 cy, .slice (some ⟨g, 0, none⟩) l.length l.length, .int .i64 ct, .int .i64 rs]
  said : Row w g 4 (l.map Value.bool)
  ne : b ≠ g
  len : 0 < l.length ∧ l.length ≤ 64

section
variable {w : World} {b g : Nat} {ph cy ct rs : Int} {l : List Bool}
theorem PhB.c0 (h : PhB w b g ph cy l ct rs) : w.cell? ⟨b, 0, none⟩ = some (.int .i64 ph) := h.row.cell 0 _ rfl
theorem PhB.c1 (h : PhB w b g ph cy l ct rs) : w.cell? ⟨b, 1, none⟩ = some (.int .i64 cy) := h.row.cell 1 _ rfl
theorem PhB.c2 (h : PhB w b g ph cy l ct rs) : w.cell? ⟨b, 2, none⟩ = some (.slice (some ⟨g, 0, none⟩) l.length l.length) := h.row.cell 2 _ rfl
theorem PhB.c3 (h : PhB w b g ph cy l ct rs) : w.cell? ⟨b, 3, none⟩ = some (.int .i64 ct) := h.row.cell 3 _ rfl
theorem PhB.c4 (h : PhB w b g ph cy l ct rs) : w.cell? ⟨b, 4, none⟩ = some (.int .i64 rs) := h.row.cell 4 _ rfl
theorem PhB.fr (h : PhB w b g ph cy l ct rs) (j : Nat) : w.frozen? ⟨b, j, none⟩ = false := h.row.free j
theorem PhB.setPh (h : PhB w b g ph cy l ct rs) (x : Int) : PhB (w.setCell ⟨b, 0, none⟩ (.int .i64 x)) b g x cy l ct rs := ⟨h.row.set 0 _, h.said.other _ _ (Ne.symm h.ne), h.ne, h.len⟩
theorem PhB.setCy (h : PhB w b g ph cy l ct rs) (x : Int) : PhB (w.setCell ⟨b, 1, none⟩ (.int .i64 x)) b g ph x l ct rs := ⟨h.row.set 1 _, h.said.other _ _ (Ne.symm h.ne), h.ne, h.len⟩
theorem PhB.setCt (h : PhB w b g ph cy l ct rs) (x : Int) : PhB (w.setCell ⟨b, 3, none⟩ (.int .i64 x)) b g ph cy l x rs := ⟨h.row.set 3 _, h.said.other _ _ (Ne.symm h.ne), h.ne, h.len⟩
theorem PhB.setRs (h : PhB w b g ph cy l ct rs) (x : Int) : PhB (w.setCell ⟨b, 4, none⟩ (.int .i64 x)) b g ph cy l ct x := ⟨h.row.set 4 _, h.said.other _ _ (Ne.symm h.ne), h.ne, h.len⟩
theorem PhB.setSaid (h : PhB w b g ph cy l ct rs) (p : Nat) (v : Bool) : PhB (w.setCell ⟨g, p, none⟩ (.bool v)) b g ph cy (l.set p v) ct rs :=
  ⟨by simpa using h.row.other p (.bool v) h.ne, by have := h.said.set p (.bool v); rwa [← List.map_set] at this, h.ne, by simpa using h.len⟩
theorem PhB.clear (h : PhB w b g ph cy l ct rs) : PhB (w.setCells g 0 (List.replicate l.length (.bool false))) b g ph cy (List.replicate l.length false) ct rs :=
  ⟨by simpa using Row.setCells_other h.ne _ _ _ h.row, by simpa using h.said.setCells (List.replicate l.length (.bool false)) (by simp), h.ne, by simpa using h.len⟩
theorem PhB.later {w' : World} {D : Nat → Prop} (h : PhB w b g ph cy l ct rs) (t : Turns D w w') (hb : ¬ D b) (hg : ¬ D g) : PhB w' b g ph cy l ct rs := ⟨h.row.later t hb, h.said.later t hg, h.ne, h.len⟩
theorem PhB.drewN (h : PhB w b g ph cy l ct rs) (q : Nat) : PhB (w.drewN q) b g ph cy l ct rs := h.later (drewN_turns w q) (fun x => x) (fun x => x)
theorem PhB.sc (h : PhB w b g ph cy l ct rs) (j : Nat) (hj : j < l.length) : w.cell? ⟨g, j, none⟩ = some (.bool (l.getD j false)) := h.said.cell j _ (by simp [hj])
theorem PhB.sf (h : PhB w b g ph cy l ct rs) (j : Nat) : w.frozen? ⟨g, j, none⟩ = false := h.said.free j

theorem next_nil (fr : Int) (w : World) : Calls Try.prog 20 #[.pointer none, .int .i64 fr] w fun e w' => e = .returned (.int .i64 1) ∧ w = w' := by
  go_enter Try.func20, Try.ntmps20
  go_wp2
  go_ret
  exact ⟨rfl, rfl⟩

theorem next_no (fr : Int) (h : PhB w b g ph cy l ct rs) (hne : ph ≠ fr) : Calls Try.prog 20 #[.pointer (some ⟨b, 0, none⟩), .int .i64 fr] w fun e w' => e = .returned (.int .i64 5) ∧ w = w' := by
  have c0 := h.c0
  have hn : (ph != fr) = true := by simpa using hne
  clear h hne
  go_enter Try.func20, Try.ntmps20
  go_wp2
  go_ret
  exact ⟨rfl, rfl⟩

/-- The two blocks of a collector's phases. -/
abbrev DB (b g : Nat) : Nat → Prop := fun j => j = b ∨ j = g
theorem Turns.bb {a w : World} (h : Turns (DB b g) a w) (k : Nat) (v : Value) : Turns (DB b g) a (w.setCell ⟨b, k, none⟩ v) := Turns.setCell h (p := ⟨b, k, none⟩) (Or.inl (Or.inl rfl)) v
theorem Turns.gg {a w : World} (h : Turns (DB b g) a w) (k : Nat) (v : Value) : Turns (DB b g) a (w.setCell ⟨g, k, none⟩ v) := Turns.setCell h (p := ⟨g, k, none⟩) (Or.inl (Or.inr rfl)) v

theorem next_ok (fr : Int) (h : PhB w b g fr cy l ct rs) (h0 : 0 ≤ fr) (h2 : fr ≤ 2) : Calls Try.prog 20 #[.pointer (some ⟨b, 0, none⟩), .int .i64 fr] w fun e w' => e = .returned (.int .i64 0) ∧ PhB w' b g (fr + 1) cy l ct rs ∧ Turns (DB b g) w w' := by
  have c0 := h.c0
  have f0 := h.fr 0
  have hne : (fr == 3) = false := by simp; omega
  have H := Lib.hid h
  clear h
  go_enter Try.func20, Try.ntmps20
  go_wp2
  go_ret
  exact ⟨rfl, H.out.setPh _, (Turns.refl _ _).bb _ _⟩

theorem next_end (h : PhB w b g 3 cy l ct rs) : Calls Try.prog 20 #[.pointer (some ⟨b, 0, none⟩), .int .i64 3] w fun e w' => e = .returned (.int .i64 0) ∧ PhB w' b g 0 cy l ct rs ∧ Turns (DB b g) w w' := by
  have c0 := h.c0
  have f0 := h.fr 0
  have H := Lib.hid h
  clear h
  go_enter Try.func20, Try.ntmps20
  go_wp2
  go_ret
  exact ⟨rfl, (H.out.setPh _).setPh _, ((Turns.refl _ _).bb _ _).bb _ _⟩

theorem forget_any (h : PhB w b g ph cy l ct rs) : Calls Try.prog 21 #[.pointer (some ⟨b, 0, none⟩)] w fun e w' => e = .returned (.tuple #[]) ∧ PhB w' b g ph cy (List.replicate l.length false) 0 rs ∧ Turns (DB b g) w w' := by
  have c2 := h.c2
  have f3 := (h.clear).fr 3
  have c3 := (h.clear).c3
  have c2' := (h.clear).c2
  have hclr := Lib.run_clear_slice (P := Try.prog) w 29 4 0 (.bool false) Try.underlying29 (fun _ => by kernel_rfl) rfl rfl g 0 l.length l.length h.len.1 (fun j hj => by rw [Nat.zero_add, h.sc j hj]; rfl) (fun j hj => by rw [Nat.zero_add]; exact h.sf j)
  have H := Lib.hid h
  clear h
  obtain ⟨w2, hw2⟩ : ∃ w2, w.setCells g 0 (List.replicate l.length (.bool false)) = w2 := ⟨_, rfl⟩
  rw [hw2] at hclr f3 c3 c2'
  have HW := Lib.hid hw2
  clear hw2 c2'
  go_enter Try.func21, Try.ntmps21
  go_wp2
  go_end0
  refine ⟨rfl, ?_, ?_⟩
  · rw [← HW.out]; exact H.out.clear.setCt 0
  · rw [← HW.out]; exact (Turns.setCells (D := DB b g) (Or.inl (Or.inr rfl)) _ _ _ (Turns.refl _ _)).bb _ _

theorem begin_nil (w : World) : Calls Try.prog 7 #[.pointer none] w fun e w' => e = .returned (.int .i64 1) ∧ w = w' := by
  go_enter Try.func7, Try.ntmps7
  go_wp2_with fail
  refine (next_nil 0 w).mono ?_
  rintro e w' ⟨rfl, rfl⟩
  go_wp2_with fail
  go_ret
  exact ⟨rfl, rfl⟩

theorem begin_no (h : PhB w b g ph cy l ct rs) (hne : ph ≠ 0) : Calls Try.prog 7 #[.pointer (some ⟨b, 0, none⟩)] w fun e w' => e = .returned (.int .i64 5) ∧ w = w' := by
  have N := next_no 0 h hne
  clear h hne
  go_enter Try.func7, Try.ntmps7
  go_wp2_with fail
  refine N.mono ?_
  rintro e w' ⟨rfl, rfl⟩
  go_wp2_with fail
  go_ret
  exact ⟨rfl, rfl⟩

theorem begin_ok (h : PhB w b g 0 cy l ct rs) (hcy : 0 ≤ cy ∧ cy ≤ 100000) : Calls Try.prog 7 #[.pointer (some ⟨b, 0, none⟩)] w fun e w' => e = .returned (.int .i64 0) ∧ PhB w' b g 1 (cy + 1) (List.replicate l.length false) 0 0 ∧ Turns (DB b g) w w' := by
  have N := next_ok 0 h (by omega) (by omega)
  rw [Int.zero_add] at N
  clear h
  go_enter Try.func7, Try.ntmps7
  go_wp2_with fail
  refine N.mono ?_
  rintro e w1 ⟨rfl, h1, t1⟩
  have c1 := h1.c1
  have f1 := h1.fr 1
  have f4 := (h1.setCy (cy + 1)).fr 4
  have c4 := (h1.setCy (cy + 1)).c4
  have h2 := (h1.setCy (cy + 1)).setRs 0
  have t2 := (t1.bb 1 (.int .i64 (cy + 1))).bb 4 (.int .i64 0)
  have F := Lib.hid (forget_any h2)
  have T2 := Lib.hid t2
  clear h1 t1 h2 t2 N
  go_wp2_with fail
  refine F.out.mono ?_
  rintro e w3 ⟨rfl, h3, t3⟩
  have R := Lib.hid h3
  have T3 := Lib.hid (T2.out.then t3)
  clear h3 t3 T2 F
  go_wp2_with fail
  go_ret
  exact ⟨rfl, R.out, T3.out⟩

theorem say_out (p : Int) (e f : Bool) (h : PhB w b g ph cy l ct rs) (hp : p < 0 ∨ (l.length : Int) ≤ p) : Calls Try.prog 9 #[.pointer (some ⟨b, 0, none⟩), .int .i64 p, .bool e, .bool f] w fun e' w' => e' = .returned (.int .i64 1) ∧ w = w' := by
  have c2 := h.c2
  clear h
  rcases Int.lt_or_le p 0 with h0 | h0
  · go_enter Try.func9, Try.ntmps9
    go_wp2
    go_ret
    exact ⟨rfl, rfl⟩
  · have h1 : (l.length : Int) ≤ p := by omega
    clear hp
    go_enter Try.func9, Try.ntmps9
    go_wp2
    go_ret
    exact ⟨rfl, rfl⟩

theorem say_no (p : Nat) (e f : Bool) (h : PhB w b g ph cy l ct rs) (hp : p < l.length) (hph : ph ≠ 1) : Calls Try.prog 9 #[.pointer (some ⟨b, 0, none⟩), .int .i64 (p : Int), .bool e, .bool f] w fun e' w' => e' = .returned (.int .i64 5) ∧ w = w' := by
  have c2 := h.c2
  have c0 := h.c0
  have h1 : (p : Int) < (l.length : Int) := by omega
  have h2 : (ph != 1) = true := by simpa using hph
  clear h hph
  go_enter Try.func9, Try.ntmps9
  go_wp2
  go_ret
  exact ⟨rfl, rfl⟩

/-- What Say makes of what was said, of the count, of the restarts. -/
def sayL (l : List Bool) (p : Nat) (e f : Bool) : List Bool := if e && !f then l.set p true else List.replicate l.length false
def sayC (l : List Bool) (ct : Int) (p : Nat) (e f : Bool) : Int := if e && !f then (if l.getD p false then ct else ct + 1) else 0
def sayR (ct rs : Int) (e f : Bool) : Int := if e && !f then rs else if 0 < ct then rs + 1 else rs

theorem say_break (p : Nat) (e f : Bool) (h : PhB w b g 1 cy l ct rs) (hp : p < l.length) (hef : (e && !f) = false) (hr : 0 ≤ rs ∧ rs ≤ 100000) :
    Calls Try.prog 9 #[.pointer (some ⟨b, 0, none⟩), .int .i64 (p : Int), .bool e, .bool f] w fun e' w' => e' = .returned (.int .i64 0) ∧ PhB w' b g 1 cy (List.replicate l.length false) 0 (if 0 < ct then rs + 1 else rs) ∧ Turns (DB b g) w w' := by
  have c2 := h.c2
  have c0 := h.c0
  have c3 := h.c3
  have c4 := h.c4
  have f4 := h.fr 4
  have h1 : (p : Int) < (l.length : Int) := by omega
  have hcase : (!e || f) = true := by revert hef; cases e <;> cases f <;> simp
  by_cases hct : 0 < ct
  · rw [if_pos hct]
    have F := Lib.hid (forget_any (h.setRs (rs + 1)))
    have T := Lib.hid ((Turns.refl (DB b g) w).bb 4 (.int .i64 (rs + 1)))
    clear h hef
    revert hcase
    cases e <;> cases f <;> intro hcase
    all_goals first
      | (exfalso; simp at hcase; done)
      | (clear hcase
         go_enter Try.func9, Try.ntmps9
         go_wp2_with fail
         refine F.out.mono ?_
         rintro e w1 ⟨rfl, h1, t1⟩
         have H1 := Lib.hid h1
         have T1 := Lib.hid (T.out.then t1)
         clear h1 t1
         go_wp2_with fail
         go_ret
         exact ⟨rfl, H1.out, T1.out⟩)
  · rw [if_neg hct]
    have F := Lib.hid (forget_any h)
    clear h hef
    revert hcase
    cases e <;> cases f <;> intro hcase
    all_goals first
      | (exfalso; simp at hcase; done)
      | (clear hcase
         go_enter Try.func9, Try.ntmps9
         go_wp2_with fail
         refine F.out.mono ?_
         rintro e w1 ⟨rfl, h1, t1⟩
         have H1 := Lib.hid h1
         have T1 := Lib.hid t1
         clear h1 t1
         go_wp2_with fail
         go_ret
         exact ⟨rfl, H1.out, T1.out⟩)

theorem say_more (p : Nat) (h : PhB w b g 1 cy l ct rs) (hp : p < l.length) (hc : 0 ≤ ct ∧ ct ≤ 100000) :
    Calls Try.prog 9 #[.pointer (some ⟨b, 0, none⟩), .int .i64 (p : Int), .bool true, .bool false] w fun e' w' => e' = .returned (.int .i64 0) ∧ PhB w' b g 1 cy (l.set p true) (if l.getD p false then ct else ct + 1) rs ∧ Turns (DB b g) w w' := by
  have c2 := h.c2
  have c0 := h.c0
  have c3 := h.c3
  have s0 := h.sc p hp
  have sf := h.sf p
  have h1 : (p : Int) < (l.length : Int) := by omega
  have f3 := (h.setSaid p true).fr 3
  have d3 := (h.setSaid p true).c3
  cases hb : l.getD p false
  · rw [hb] at s0
    simp only [Bool.false_eq_true, if_false]
    have H := Lib.hid ((h.setSaid p true).setCt (ct + 1))
    have T := Lib.hid (((Turns.refl (DB b g) w).gg p (.bool true)).bb 3 (.int .i64 (ct + 1)))
    clear h hb
    go_enter Try.func9, Try.ntmps9
    go_wp2
    go_ret
    exact ⟨rfl, H.out, T.out⟩
  · rw [hb] at s0
    simp only [if_true]
    have e : l.set p true = l := by
      apply List.ext_getElem?
      intro j
      by_cases hj : p = j
      · subst hj
        rw [List.getElem?_set_self hp, List.getElem?_eq_getElem hp]
        simpa [List.getD, hp] using hb.symm
      · rw [List.getElem?_set_ne hj]
    rw [e]
    have H := Lib.hid h
    clear h hb f3 d3 e sf
    go_enter Try.func9, Try.ntmps9
    go_wp2
    go_ret
    exact ⟨rfl, H.out, Turns.refl _ _⟩

theorem say_ok (p : Nat) (e f : Bool) (h : PhB w b g 1 cy l ct rs) (hp : p < l.length) (hc : 0 ≤ ct ∧ ct ≤ 100000) (hr : 0 ≤ rs ∧ rs ≤ 100000) :
    Calls Try.prog 9 #[.pointer (some ⟨b, 0, none⟩), .int .i64 (p : Int), .bool e, .bool f] w fun e' w' => e' = .returned (.int .i64 0) ∧ PhB w' b g 1 cy (sayL l p e f) (sayC l ct p e f) (sayR ct rs e f) ∧ Turns (DB b g) w w' := by
  cases hef : (e && !f)
  · have := say_break p e f h hp hef hr
    unfold sayL sayC sayR
    rw [hef]
    exact this
  · obtain ⟨rfl, rfl⟩ : e = true ∧ f = false := by revert hef; cases e <;> cases f <;> simp
    exact say_more p h hp hc

/-- Quiet's answer. -/
def qt (ph ct : Int) (n : Nat) : Bool := decide (ph = 1 ∧ ct = (n : Int))

theorem quiet_any (h : PhB w b g ph cy l ct rs) : Calls Try.prog 10 #[.pointer (some ⟨b, 0, none⟩)] w fun e' w' => e' = .returned (.bool (qt ph ct l.length)) ∧ ∃ q, w' = w.drewN q := by
  have c2 := h.c2
  have c0 := h.c0
  have c3 := h.c3
  clear h
  cases h1 : (ph == 1)
  · have hq : qt ph ct l.length = false := by unfold qt; simp only [decide_eq_false_iff_not]; intro hh; rw [hh.1] at h1; simp at h1
    rw [hq]
    clear hq
    go_enter Try.func10, Try.ntmps10
    go_wp2_with fail
    go_quiet (fail)
    go_wp2_with fail
    go_ret
    exact ⟨rfl, _, rfl⟩
  · cases h2 : (ct == (l.length : Int))
    · have hq : qt ph ct l.length = false := by unfold qt; simp only [decide_eq_false_iff_not]; intro hh; rw [hh.2] at h2; simp at h2
      rw [hq]
      clear hq
      go_enter Try.func10, Try.ntmps10
      go_wp2_with fail
      go_quiet (fail)
      go_wp2_with fail
      go_ret
      exact ⟨rfl, _, rfl⟩
    · have hq : qt ph ct l.length = true := by unfold qt; simp only [decide_eq_true_eq]; exact ⟨by simpa using h1, by simpa using h2⟩
      rw [hq]
      clear hq
      go_enter Try.func10, Try.ntmps10
      go_wp2_with fail
      go_quiet (fail)
      go_wp2_with fail
      go_ret
      exact ⟨rfl, _, rfl⟩

theorem quiet_nil (w : World) : Calls Try.prog 10 #[.pointer none] w fun e' w' => e' = .returned (.bool false) ∧ ∃ q, w' = w.drewN q := by
  go_enter Try.func10, Try.ntmps10
  go_wp2_with fail
  go_quiet (fail)
  go_wp2_with fail
  go_ret
  exact ⟨rfl, _, rfl⟩
end
end Go.Proofs.Ytilcdoilmdcpbaa
