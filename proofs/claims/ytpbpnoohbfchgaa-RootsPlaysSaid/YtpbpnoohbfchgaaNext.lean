/- roots: Next, Add by contracts. -/
import Derived.Test.YtpbpnoohbfchgaaRoots
namespace Go.Proofs.Ytpbpnoohbfchgaa
open Go.RowKit

theorem RB.put {w : World} {B b : Nat} {v v' : Value} {js js' : List J} (h : RB w B b v js) (hv : JV w B v' js') (hne : v'.ownBlock ≠ some b) : RB (w.setCell ⟨b, 0, none⟩ v') B b v' js' :=
  ⟨h.row.set 0 v', hv.later (Turns.setCell (D := fun j => j = b) (Turns.refl _ w) (p := ⟨b, 0, none⟩) (Or.inl rfl) v') (fun _ hg hgb => hne (hgb ▸ hg)), hne⟩

theorem next_nil (w : World) : Calls Try.prog 8 #[.pointer none] w fun e w' => e = .returned (.tuple #[.agg #[.int .i64 0, .int .i64 0, .int .i64 0], .bool false]) ∧ Turns (fun _ => False) w w' := by
  go_enter Try.func8, Try.ntmps8
  go_wp2_with fail
  refine (left_nil _).mono ?_
  rintro e w' ⟨rfl, rfl⟩
  go_wp2_with fail
  exact bodyPost_ret (v := .tuple #[.agg #[.int .i64 0, .int .i64 0, .int .i64 0], .bool false]) (by simp [results, Try.results8, go_sem]) rfl ⟨rfl, (Turns.refl _ _).alloc _⟩

theorem next_empty {w : World} {B b : Nat} {v : Value} (h : RB w B b v []) : Calls Try.prog 8 #[.pointer (some ⟨b, 0, none⟩)] w fun e w' => e = .returned (.tuple #[.agg #[.int .i64 0, .int .i64 0, .int .i64 0], .bool false]) ∧ Turns (fun _ => False) w w' := by
  go_enter Try.func8, Try.ntmps8
  go_wp2_with fail
  refine (left_any (h.later ((Turns.refl (fun _ => False) w).alloc _) (fun x => x) (fun _ _ x => x))).mono ?_
  rintro e w' ⟨rfl, rfl⟩
  go_wp2_with fail
  exact bodyPost_ret (v := .tuple #[.agg #[.int .i64 0, .int .i64 0, .int .i64 0], .bool false]) (by simp [results, Try.results8, go_sem]) rfl ⟨rfl, (Turns.refl _ _).alloc _⟩
  
set_option maxHeartbeats 1000000 in
theorem next_some {w : World} {B b : Nat} {v : Value} {j : J} {js : List J} (h : RB w B b v (j :: js)) (hb : b < w.heap.size) : Calls Try.prog 8 #[.pointer (some ⟨b, 0, none⟩)] w fun e w' => e = .returned (.tuple #[.agg #[.int .i64 j.g, .int .i64 j.f, .int .i64 j.t], .bool true]) ∧ (∃ v', RB w' B b v' js ∧ v'.ownBlock = v.ownBlock) ∧ Turns (fun x => x = b) w w' := by
  have L := left_any (h.later ((Turns.refl (fun _ => False) w).alloc (.cells #[.int .i64 0, .int .i64 0, .int .i64 0] 28)) (fun x => x) (fun _ _ x => x))
  obtain ⟨g, o, cap, rfl, hg, hgs, hcap, hmx, hown, hcell⟩ := h.jobs.cells (by simp)
  have c0 := h.row.cell 0 _ rfl
  have f0 := h.row.free 0
  have x0 : w.cell? ⟨g, o, none⟩ = some (.int .i64 j.g) := hcell 0 _ rfl
  have x1 := hcell 1 _ rfl
  have x2 := hcell 2 _ rfl
  have tl := View.tail (c := jc j) (cs := flat js) (n := js.length) h.jobs rfl
  have hgb : g ≠ b := fun e => h.ne (by simp [Value.ownBlock, e])
  have hn : List.length (j :: js) = js.length + 1 := rfl
  clear hown hcell
  have HH := Lib.hid h
  clear h
  have HT := Lib.hid tl
  clear tl
  go_enter Try.func8, Try.ntmps8
  go_wp2_with fail
  refine L.mono ?_
  rintro e w' ⟨rfl, rfl⟩
  have nz : ((js.length : Int) + 1 == 0) = false := by simp; omega
  by_cases h1 : cap = 1
  · go_wp2_with fail
    refine bodyPost_ret (v := .tuple #[.agg #[.int .i64 j.g, .int .i64 j.f, .int .i64 j.t], .bool true]) (by simp [results, Try.results8, go_sem]) rfl ⟨rfl, ⟨_, (RB.later (RB.put HH.out ?_ ?_) (((Turns.refl (fun x => False) _).alloc _).alloc _) (fun x => x) (fun _ _ x => x)), rfl⟩, (((Turns.refl (fun x => x = b) w).setCell (p := ⟨b, 0, none⟩) (Or.inl rfl) _).alloc _).alloc _⟩
    · obtain ⟨e0, e1, e2⟩ := HT.out.1 h1
      unfold JV
      rw [e0, e1]
      exact e2
    · simp [Value.ownBlock]; exact hgb
  · go_wp2_with fail
    refine bodyPost_ret (v := .tuple #[.agg #[.int .i64 j.g, .int .i64 j.f, .int .i64 j.t], .bool true]) (by simp [results, Try.results8, go_sem]) rfl ⟨rfl, ⟨_, (RB.later (RB.put HH.out ?_ ?_) (((Turns.refl (fun x => False) _).alloc _).alloc _) (fun x => x) (fun _ _ x => x)), rfl⟩, (((Turns.refl (fun x => x = b) w).setCell (p := ⟨b, 0, none⟩) (Or.inl rfl) _).alloc _).alloc _⟩
    · exact HT.out.2 h1
    · simp [Value.ownBlock]; exact hgb

end Go.Proofs.Ytpbpnoohbfchgaa
