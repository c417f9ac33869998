/- The walk of ScanNobody. -/
import Derived.Test.YtaolbalcedhhbaaTold
namespace Go.Proofs.Ytaolbalcedhhbaa
open Go.RowKit

theorem new_less (addr n : Int) (w : World) (hn : n ≤ 0) :
    Calls Try.prog 7 #[.int .i64 addr, .int .i64 n] w fun e w' => e = .returned (.pointer (some ⟨w.heap.size, 0, none⟩)) ∧ w.alloc (.cells #[.int .i64 addr, .int .i64 0, .int .i64 0] 39 (0, 0)) = w' := by
  rcases Int.lt_or_eq_of_le hn with hlt | rfl
  · go_enter Try.func7, Try.ntmps7
    go_wp2
    go_ret
    exact ⟨rfl, rfl⟩
  · exact new_any addr 0 w (by omega)

theorem neg_le (n : Int) : wrap64 (-wrap64 ((IntKind.u64.wrap n).tmod 100)) ≤ 0 := by
  have h0 : 0 ≤ IntKind.u64.wrap n := by rw [IntKind.wrap_u64]; omega
  have h1 : (IntKind.u64.wrap n).tmod 100 = IntKind.u64.wrap n % 100 := Int.tmod_eq_emod_of_nonneg h0
  rw [h1]
  generalize IntKind.u64.wrap n = x
  have h2 : wrap64 (x % 100) = x % 100 := by unfold wrap64; omega
  rw [h2]
  unfold wrap64
  omega

theorem nobody1_any (a k : Int) (w : World) :
    Calls Try.prog 15 #[.int .i64 a, .int .i64 k] w fun e w' => e = .returned (.int .i64 7) ∧ w = w' := by
  go_enter Try.func15, Try.ntmps15
  go_wp2
  go_ret
  exact ⟨rfl, rfl⟩

theorem nobody_step (b : Nat) (addr : Int) (w : World) (h : Sc w b addr 0 0) :
    Calls Try.prog 10 #[.pointer (some ⟨b, 0, none⟩), .func (.func 15) #[] #[]] w fun e w' => (∃ a cap, e = .returned (.slice a 0 cap)) ∧ Turns (fun j => j = b) w w' := by
  refine (step_any 15 #[] (fun _ => False) (fun _ _ => True) addr (fun _ => 7) b 0 0 0 w (enters Try.func15 (by kernel_rfl) rfl) h rfl (by omega) (by omega) (fun _ x => x.elim) (fun k W _ h => by omega) (fun _ _ _ _ _ => trivial) trivial).mono ?_
  rintro e w' ⟨u, rfl, ho, _, _, ht⟩
  obtain ⟨a, cap, rfl⟩ := owns_none ho
  exact ⟨⟨a, cap, rfl⟩, ht.mono fun j hj _ => hj.elim id (fun x => x.elim)⟩

set_option maxRecDepth 100000 in
theorem nobody_any (addr n : Int) (w : World) :
    Calls Try.prog 4 #[.int .i64 addr, .int .i64 n] w fun e w' => e = .returned (.bool true) ∧ Turns (fun _ => False) w w' := by
  go_enter Try.func4, Try.ntmps4
  go_wp2_with fail
  refine (new_less addr _ w (neg_le n)).mono ?_
  rintro e w1 ⟨rfl, hw1⟩
  have h1 : Sc w1 w.heap.size addr 0 0 := by subst hw1; exact heap_new rfl
  have t1 : Turns (fun _ => False) w w1 := by subst hw1; exact (Turns.refl _ _).alloc _
  clear hw1
  go_wp2_with fail
  refine (told_any w1).mono ?_
  rintro e w2 ⟨rfl, t2⟩
  have h2 : Sc w2 w.heap.size addr 0 0 := t2.heap h1 (fun x => x)
  have t3 : Turns (fun _ => False) w w2 := t1.trans t2 (fun _ x _ => x) (fun _ x _ => x)
  clear h1 t1 t2
  go_wp2_with fail
  refine (done_any _ addr 0 0 w2 h2 (by omega) (by omega) (by omega)).mono ?_
  rintro e w3 ⟨rfl, q, hq⟩
  have h3 : Sc w3 w.heap.size addr 0 0 := by subst hq; exact h2
  have t4 : Turns (fun _ => False) w w3 := by subst hq; exact ⟨t3.os, t3.tape, t3.output, t3.size, t3.block⟩
  clear hq h2 t3
  have e20 : ((0 : Int) - 0 == 0) = true := by decide
  rw [e20]
  clear e20
  go_wp2_with fail
  refine (left_any _ addr 0 0 w3 h3 (by omega) (by omega) (by omega)).mono ?_
  rintro e w4 ⟨rfl, q, hq⟩
  have h4 : Sc w4 w.heap.size addr 0 0 := by subst hq; exact h3
  have t5 : Turns (fun _ => False) w w4 := by subst hq; exact ⟨t4.os, t4.tape, t4.output, t4.size, t4.block⟩
  clear hq h3 t4
  go_wp2_with fail
  refine (nobody_step _ addr w4 h4).mono ?_
  rintro e w5 ⟨⟨a, cap, rfl⟩, t6⟩
  have t7 : Turns (fun _ => False) w w5 := t5.trans t6 (fun _ x _ => x) (fun _ x hj => (by omega : False))
  clear t5 t6 h4
  go_wp2_with fail
  refine (done_nil w5).mono ?_
  rintro e w6 ⟨rfl, rfl⟩
  go_wp2_with fail
  refine (left_nil w5).mono ?_
  rintro e w6 ⟨rfl, rfl⟩
  go_wp2_with fail
  refine (step_nil 15 _ w5).mono ?_
  rintro e w6 ⟨rfl, t8⟩
  have t9 : Turns (fun _ => False) w w6 := t7.trans t8 (fun _ x _ => x) (fun _ x _ => x)
  clear t7 t8
  go_wp2_with fail
  refine (all_none _ (-1) w6 (by omega)).mono ?_
  rintro e w7 ⟨rfl, rfl⟩
  have T := Lib.hid t9
  clear t9
  go_wp2_with fail
  go_ret
  exact ⟨rfl, T.out⟩
theorem nobody_walk (a0 : Int) (_w0 : (Lit.int .i64 a0).wf = true) (a1 : Int) (_w1 : (Lit.int .i64 a1).wf = true) (w : World) :
    Calls Try.prog 4 #[.int .i64 a0, .int .i64 a1] w fun e w' => e = .returned (.bool true) ∧ Below w.heap.size w w' :=
  (nobody_any a0 a1 w).mono fun _ _ ⟨he, ht⟩ => ⟨he, ht.toBelow (Nat.le_refl _) fun _ _ x => x⟩
end Go.Proofs.Ytaolbalcedhhbaa
