/- The methods of scan.Scan by contracts. -/
import Derived.Test.YtaolbalcedhhbaaTurns
import Derived.Test.YtaolbalcedhhbaaAll
import Derived.StillTailTactics
import Derived.BigQuiet
import Derived.Deep.QuietTactic
import Derived.Deep.RegionWith
namespace Go.Proofs.Ytaolbalcedhhbaa
open Go.RowKit

/-- A function that has a body is entered. -/
theorem enters {f : FuncId} {fn : Func} {c : Code} (hf : Try.prog.funcs[f]? = some fn) (hname : (fn.name == "runtime.NumGoroutine") = false) (hb : fn.body = some c) :
    ∀ args w, (callFunc f args).run Try.prog w = .ok (.enter f args) w := by
  intro args w
  have h1 : fn.name ≠ "runtime.NumGoroutine" := by simpa using hname
  simp [callFunc, hf, h1, hb, mark]

/-- Block b is a scan. -/
def Sc (w : World) (b : Nat) (addr n at_ : Int) : Prop := w.heap[b]? = some (.cells #[.int .i64 addr, .int .i64 n, .int .i64 at_] 39 (0, 0))
theorem Sc.c0 {w : World} {b : Nat} {addr n at_ : Int} (h : Sc w b addr n at_) : w.cell? ⟨b, 0, none⟩ = some (.int .i64 addr) := by unfold Sc at h; simp [World.cell?, h]
theorem Sc.c1 {w : World} {b : Nat} {addr n at_ : Int} (h : Sc w b addr n at_) : w.cell? ⟨b, 1, none⟩ = some (.int .i64 n) := by unfold Sc at h; simp [World.cell?, h]
theorem Sc.c2 {w : World} {b : Nat} {addr n at_ : Int} (h : Sc w b addr n at_) : w.cell? ⟨b, 2, none⟩ = some (.int .i64 at_) := by unfold Sc at h; simp [World.cell?, h]
theorem Sc.fr {w : World} {b : Nat} {addr n at_ : Int} (h : Sc w b addr n at_) (j : Nat) : w.frozen? ⟨b, j, none⟩ = false := by unfold Sc at h; simp [World.frozen?, h]
theorem Sc.lt {w : World} {b : Nat} {addr n at_ : Int} (h : Sc w b addr n at_) : b < w.heap.size := lt_of_block h

theorem sc_set {w : World} {b : Nat} {addr n at_ : Int} (h : Sc w b addr n at_) (m : Int) : Sc (w.setCell ⟨b, 2, none⟩ (.int .i64 m)) b addr n m := by
  have hlt := h.lt
  unfold Sc at h ⊢
  have h' : w.heap[b] = .cells #[.int .i64 addr, .int .i64 n, .int .i64 at_] 39 (0, 0) := by simpa [Array.getElem?_eq_getElem hlt] using h
  show (w.heap.modify b _)[b]? = _
  rw [Array.getElem?_eq_getElem (by simpa using hlt), Array.getElem_modify_self, h']
  rfl

theorem new_any (addr n : Int) (w : World) (hn : 0 ≤ n) :
    Calls Try.prog 7 #[.int .i64 addr, .int .i64 n] w fun e w' => e = .returned (.pointer (some ⟨w.heap.size, 0, none⟩)) ∧ w.alloc (.cells #[.int .i64 addr, .int .i64 n, .int .i64 0] 39 (0, 0)) = w' := by
  go_enter Try.func7, Try.ntmps7
  go_wp2
  go_ret
  exact ⟨rfl, rfl⟩

theorem left_any (b : Nat) (addr n at_ : Int) (w : World) (h : Sc w b addr n at_) (h0 : 0 ≤ at_) (h1 : at_ ≤ n) (h2 : n ≤ 1000) :
    Calls Try.prog 11 #[.pointer (some ⟨b, 0, none⟩)] w fun e w' => e = .returned (.int .i64 (n - at_)) ∧ ∃ q, w' = w.drewN q := by
  have c1 := h.c1
  have c2 := h.c2
  clear h
  go_enter Try.func11, Try.ntmps11
  go_wp2
  go_quiet (fail)
  go_wp2
  go_ret
  exact ⟨rfl, _, rfl⟩

theorem left_nil (w : World) :
    Calls Try.prog 11 #[.pointer none] w fun e w' => e = .returned (.int .i64 0) ∧ w = w' := by
  go_enter Try.func11, Try.ntmps11
  go_wp2
  go_ret
  exact ⟨rfl, rfl⟩

theorem done_any (b : Nat) (addr n at_ : Int) (w : World) (h : Sc w b addr n at_) (h0 : 0 ≤ at_) (h1 : at_ ≤ n) (h2 : n ≤ 1000) :
    Calls Try.prog 9 #[.pointer (some ⟨b, 0, none⟩)] w fun e w' => e = .returned (.bool (n - at_ == 0)) ∧ ∃ q, w' = w.drewN q := by
  go_enter Try.func9, Try.ntmps9
  go_wp2_with (go_at_call 11; refine (left_any _ _ _ _ _ h h0 h1 h2).mono ?_; rintro e w' ⟨rfl, q, rfl⟩)
  go_ret
  exact ⟨rfl, _, rfl⟩

theorem done_nil (w : World) :
    Calls Try.prog 9 #[.pointer none] w fun e w' => e = .returned (.bool true) ∧ w = w' := by
  go_enter Try.func9, Try.ntmps9
  go_wp2_with (go_at_call 11; refine (left_nil _).mono ?_; rintro e w' ⟨rfl, rfl⟩)
  go_ret
  exact ⟨rfl, rfl⟩

theorem step_nil (G : Nat) (lb : Array Value) (w : World) :
    Calls Try.prog 10 #[.pointer none, .func (.func G) #[] lb] w fun e w' => e = .returned (.slice none 0 0) ∧ Turns (fun _ => False) w w' := by
  go_enter Try.func10, Try.ntmps10
  go_wp2
  go_ret
  exact ⟨rfl, ((Turns.refl _ _).alloc _).alloc _⟩

/-- The closure within Step. -/
theorem step1_any (G : Nat) (lb : Array Value) (bs bl bf b : Nat) (addr n at_ from_ k : Int) (w : World) (R : Ending → World → Prop)
    (eg : ∀ args w, (callFunc G args).run Try.prog w = .ok (.enter G args) w)
    (hs : w.heap[bs]? = some (.cells #[.pointer (some ⟨b, 0, none⟩)] 24 (0, 0))) (hl : w.heap[bl]? = some (.cells #[.func (.func G) #[] lb] 26 (0, 0)))
    (hf : w.heap[bf]? = some (.cells #[.int .i64 from_] 3 (0, 0))) (h : Sc w b addr n at_) (h0 : 0 ≤ from_) (h1 : from_ ≤ 1000) (h2 : 0 ≤ k) (h3 : k ≤ 1000)
    (hg : Calls Try.prog G (#[.int .i64 addr, .int .i64 (from_ + k)] ++ lb) w.drew (fun e w' => ∃ v, e = .returned (.int .i64 v) ∧ R e w')) :
    Calls Try.prog 20 #[.int .i64 k, .pointer (some ⟨bl, 0, none⟩), .pointer (some ⟨bs, 0, none⟩), .pointer (some ⟨bf, 0, none⟩)] w R := by
  have c0 := h.c0
  have d0 := cell_of_one hs
  have d1 := cell_of_one hl
  have d2 := cell_of_one hf
  clear h hs hl hf
  go_enter Try.func20, Try.ntmps20
  go_wp2_with fail
  go_still_tail 8, (by kernel_rfl)
  go_wp2_with fail
  refine hg.mono ?_
  rintro e w1 ⟨v, rfl, hR⟩
  have HR : Hid (R (.returned (.int .i64 v)) w1) := hR
  clear hR
  go_wp2_with fail
  exact HR.out

/-- What stands behind the store of Step: the call of All with the closure. -/
theorem step_all (G : Nat) (lb : Array Value) (C : Nat → Prop) (I : Nat → World → Prop) (addr : Int) (v : Nat → Int) (b n at_ m : Nat) (w w4 : World)
    (eg : ∀ args w, (callFunc G args).run Try.prog w = .ok (.enter G args) w)
    (hb : b < w.heap.size) (hm : m = min (at_ + 16) n) (hat : at_ ≤ n) (hn : n ≤ 900) (hC : ∀ j, C j → j < w.heap.size ∧ j ≠ b)
    (hload : ∀ k W, at_ ≤ k → k < m → I k W → w.heap.size ≤ W.heap.size → Calls Try.prog G (#[.int .i64 addr, .int .i64 (k : Int)] ++ lb) W fun e W' => e = .returned (.int .i64 (v k)) ∧ I (k + 1) W' ∧ Turns C W W')
    (hst : ∀ k W W', I k W → Turns (fun j => j = b ∨ w.heap.size ≤ j) W W' → I k W') (hI : I at_ w4)
    (hs : w4.heap[w.heap.size]? = some (.cells #[.pointer (some ⟨b, 0, none⟩)] 24 (0, 0))) (hl : w4.heap[w.heap.size + 1]? = some (.cells #[.func (.func G) #[] lb] 26 (0, 0)))
    (hf : w4.heap[w.heap.size + 1 + 1]? = some (.cells #[.int .i64 (at_ : Int)] 3 (0, 0))) (h : Sc w4 b addr n m) (T : Turns (fun j => j = b) w w4) :
    Calls Try.prog 12 #[.int .i64 ((m - at_ : Nat) : Int), .func (.func 20) #[] #[.pointer (some ⟨w.heap.size + 1, 0, none⟩), .pointer (some ⟨w.heap.size, 0, none⟩), .pointer (some ⟨w.heap.size + 1 + 1, 0, none⟩)]] w4 fun e w' =>
      ∃ u, e = .returned u ∧ w'.ownsRow w.heap.size 3 1 u (nz (fun i => v (at_ + i)) (m - at_)).length ((nz (fun i => v (at_ + i)) (m - at_)).map (Value.int .i64)) ∧
      I m w' ∧ Sc w' b addr n m ∧ Turns (fun j => j = b ∨ C j) w w' := by
  have hz := lt_of_block hf
  refine (all_any 20 _ (w.heap.size + 3) (fun k W => I (at_ + k) W ∧ W.heap[w.heap.size]? = some (.cells #[.pointer (some ⟨b, 0, none⟩)] 24 (0, 0)) ∧ W.heap[w.heap.size + 1]? = some (.cells #[.func (.func G) #[] lb] 26 (0, 0)) ∧
    W.heap[w.heap.size + 1 + 1]? = some (.cells #[.int .i64 (at_ : Int)] 3 (0, 0)) ∧ Sc W b addr n m ∧ Turns (fun j => j = b ∨ C j) w W) (fun i => v (at_ + i)) (m - at_) w4 (enters Try.func20 (by kernel_rfl) rfl) (by omega) ?_ ?_ (by omega)
    ⟨hI, hs, hl, hf, h, T.mono fun j hj _ => Or.inl hj⟩).mono ?_
  · rintro k W hk hB ⟨i1, i2, i3, i4, i5, i6⟩
    refine step1_any G lb w.heap.size (w.heap.size + 1) (w.heap.size + 1 + 1) b addr n m at_ k W _ eg i2 i3 i4 i5 (by omega) (by omega) (by omega) (by omega) ?_
    have e : ((at_ : Int) + (k : Int)) = ((at_ + k : Nat) : Int) := by omega
    rw [e]
    refine (hload (at_ + k) W.drew (by omega) (by omega) (hst _ _ _ i1 ((Turns.refl _ _).drew)) (by simp; omega)).mono ?_
    rintro e w' ⟨rfl, h1, h2⟩
    have h2' : Turns C W w' := ((Turns.refl C W).drew.trans h2 (fun _ x _ => x) (fun _ x _ => x))
    refine ⟨_, rfl, rfl, ⟨h1, ?_, ?_, ?_, ?_, ?_⟩, h2'.size, fun j hj hj' => h2'.block j hj' (fun x => by have := hC j x; omega)⟩
    · exact h2'.heap i2 (fun x => by have := hC _ x; omega)
    · exact h2'.heap i3 (fun x => by have := hC _ x; omega)
    · exact h2'.heap i4 (fun x => by have := hC _ x; omega)
    · exact h2'.heap i5 (fun x => by have := hC _ x; omega)
    · exact i6.trans h2' (fun _ x _ => x) (fun _ x _ => Or.inr x)
  · rintro k W W' ⟨i1, i2, i3, i4, i5, i6⟩ hbel
    have hbl : ∀ {j : Nat} {o : Obj}, j < w.heap.size + 3 → W.heap[j]? = some o → W'.heap[j]? = some o := fun hj ho => (hbel.block _ hj).trans ho
    exact ⟨hst _ _ _ i1 ((Turns.ofBelow hbel).mono fun j hj _ => Or.inr (by omega)), hbl (by omega) i2, hbl (by omega) i3, hbl (by omega) i4, hbl (by omega) i5, i6.below hbel (by omega)⟩
  · rintro e w' ⟨u, rfl, ho, ⟨i1, i2, i3, i4, i5, i6⟩, _⟩
    refine ⟨u, rfl, ownsRow_base ho (by omega), ?_, i5, i6⟩
    have e : at_ + (m - at_) = m := by omega
    rw [e] at i1
    exact i1

set_option maxRecDepth 100000 in
theorem step_any (G : Nat) (lb : Array Value) (C : Nat → Prop) (I : Nat → World → Prop) (addr : Int) (v : Nat → Int) (b n at_ m : Nat) (w : World)
    (eg : ∀ args w, (callFunc G args).run Try.prog w = .ok (.enter G args) w)
    (h : Sc w b addr n at_) (hm : m = min (at_ + 16) n) (hat : at_ ≤ n) (hn : n ≤ 900) (hC : ∀ j, C j → j < w.heap.size ∧ j ≠ b)
    (hload : ∀ k W, at_ ≤ k → k < m → I k W → w.heap.size ≤ W.heap.size → Calls Try.prog G (#[.int .i64 addr, .int .i64 (k : Int)] ++ lb) W fun e W' => e = .returned (.int .i64 (v k)) ∧ I (k + 1) W' ∧ Turns C W W')
    (hst : ∀ k W W', I k W → Turns (fun j => j = b ∨ w.heap.size ≤ j) W W' → I k W') (hI : I at_ w) :
    Calls Try.prog 10 #[.pointer (some ⟨b, 0, none⟩), .func (.func G) #[] lb] w fun e w' => ∃ u, e = .returned u ∧
      w'.ownsRow w.heap.size 3 1 u (nz (fun i => v (at_ + i)) (m - at_)).length ((nz (fun i => v (at_ + i)) (m - at_)).map (Value.int .i64)) ∧
      I m w' ∧ Sc w' b addr n m ∧ Turns (fun j => j = b ∨ C j) w w' := by
  obtain ⟨w3, hw3⟩ : ∃ w3, ((w.alloc (.cells #[.pointer (some ⟨b, 0, none⟩)] 24)).alloc (.cells #[.func (.func G) #[] lb] 26)).alloc (.cells #[.int .i64 (at_ : Int)] 3) = w3 := ⟨_, rfl⟩
  have hs3 : w3.heap[w.heap.size]? = some (.cells #[.pointer (some ⟨b, 0, none⟩)] 24 (0, 0)) := by subst hw3; exact heap_old (heap_old (heap_new rfl))
  have hl3 : w3.heap[w.heap.size + 1]? = some (.cells #[.func (.func G) #[] lb] 26 (0, 0)) := by subst hw3; exact heap_old (heap_new (by simp))
  have hf3 : w3.heap[w.heap.size + 1 + 1]? = some (.cells #[.int .i64 (at_ : Int)] 3 (0, 0)) := by subst hw3; exact heap_new (by simp)
  have h3 : Sc w3 b addr n at_ := by subst hw3; exact heap_old (heap_old (heap_old h))
  have T3 : Turns (fun _ => False) w w3 := by subst hw3; exact (((Turns.refl _ _).alloc _).alloc _).alloc _
  have hb := h.lt
  obtain ⟨w4, hw4⟩ : ∃ w4, (w3.setCell ⟨b, 2, none⟩ (.int .i64 (m : Int))).drew = w4 := ⟨_, rfl⟩
  have hne : ∀ {j : Nat} {o : Obj}, j ≠ b → w3.heap[j]? = some o → w4.heap[j]? = some o := by
    subst hw4; intro j o hj ho; exact (Below.heap_setCell _ _ _ _ hj).trans ho
  have hs4 := hne (by omega) hs3
  have hl4 := hne (by omega) hl3
  have hf4 := hne (by omega) hf3
  have h4 : Sc w4 b addr n m := by subst hw4; exact sc_set h3 _
  have T4 : Turns (fun j => j = b) w w4 := by subst hw4; exact ((T3.mono (E := fun j => j = b) fun _ x _ => x.elim).setCell (p := ⟨b, 2, none⟩) (Or.inl rfl) _).drew
  have hI4 : I at_ w4.drew := hst _ _ _ hI ((T4.mono fun _ x _ => Or.inl x).drew)
  have HW3 := Lib.hid hw3
  have HW4 := Lib.hid hw4
  have D := Lib.hid (step_all G lb C I addr v b n at_ m w w4.drew eg hb hm hat hn hC hload hst hI4 hs4 hl4 hf4 h4 T4.drew)
  have HS4 := Lib.hid hs4
  have HF4 := Lib.hid hf4
  have H4 := Lib.hid h4
  clear hw3 hw4 hs4 hl4 hf4 h4 T4 hI4 hload hst hI hne
  have c1 := h.c1
  have c2 := h.c2
  have hsub : IntKind.i64.wrap ((m : Int) - (at_ : Int)) = ((m - at_ : Nat) : Int) := by rw [IntWalk.i64_in _ (by omega)]; omega
  have HSUB := Lib.hid hsub
  clear hsub
  have m4 := h3.c2
  by_cases hc : at_ + 16 ≤ n
  · have e16 : IntKind.i64.wrap ((at_ : Int) + 16) = (at_ : Int) + 16 := IntWalk.i64_in _ (by omega)
    have E16 := Lib.hid e16
    have HW5 : Hid ((w3.setCell ⟨b, 2, none⟩ (.int .i64 ((at_ : Int) + 16))).drew = w4) := by
      have e : ((at_ : Int) + 16) = (m : Int) := by omega
      rw [e]; exact HW4
    clear e16 HW4
    have HW4 := HW5
    clear HW5
    have hc' : (at_ : Int) + 16 ≤ (n : Int) := by omega
    clear hm
    go_enter Try.func10, Try.ntmps10
    go_wp2_with fail
    rw [HW3.out]
    clear c1 c2 m4
    have c1 := h3.c1
    have c2 := h3.c2
    have fr2 := h3.fr 2
    have d0 := cell_of_one hs3
    have d1 := cell_of_one hl3
    have d2 := cell_of_one hf3
    clear hs3 hl3 hf3
    have e16 := E16.out
    go_still_tail 13, (by kernel_rfl)
    go_wp2_with fail
    rw [HW4.out]
    clear c1 c2 d0 d1 d2 fr2 e16
    have c2 := H4.out.c2
    have d0 := cell_of_one HS4.out
    have d2 := cell_of_one HF4.out
    have hsub := HSUB.out
    have hmf : ∀ (fn : Fn) (first cap : Array Value) (w : World), (Instr.makeFunc fn first cap).run Try.prog w = .ok (.func fn first cap) w := fun _ _ _ _ => rfl
    go_still_tail 7, (by kernel_rfl)
    clear c2 d0 d2 hsub hmf
    go_wp2_with fail
    refine D.out.mono ?_
    rintro e w5 ⟨u, rfl, r⟩
    have R := Lib.hid r
    clear r
    go_wp2_with fail
    go_ret
    exact ⟨u, rfl, R.out⟩
  · obtain rfl : m = n := by omega
    have hc' : (m : Int) < (at_ : Int) + 16 := by omega
    clear hm
    have e16 : IntKind.i64.wrap ((at_ : Int) + 16) = (at_ : Int) + 16 := IntWalk.i64_in _ (by omega)
    have E16 := Lib.hid e16
    clear e16
    go_enter Try.func10, Try.ntmps10
    go_wp2_with fail
    rw [HW3.out]
    clear c1 c2 m4
    have c1 := h3.c1
    have c2 := h3.c2
    have fr2 := h3.fr 2
    have d0 := cell_of_one hs3
    have d1 := cell_of_one hl3
    have d2 := cell_of_one hf3
    clear hs3 hl3 hf3
    have e16 := E16.out
    go_still_tail 13, (by kernel_rfl)
    go_wp2_with fail
    rw [HW4.out]
    clear c1 c2 d0 d1 d2 fr2 e16
    have c2 := H4.out.c2
    have d0 := cell_of_one HS4.out
    have d2 := cell_of_one HF4.out
    have hsub := HSUB.out
    have hmf : ∀ (fn : Fn) (first cap : Array Value) (w : World), (Instr.makeFunc fn first cap).run Try.prog w = .ok (.func fn first cap) w := fun _ _ _ _ => rfl
    go_still_tail 7, (by kernel_rfl)
    clear c2 d0 d2 hsub hmf
    go_wp2_with fail
    refine D.out.mono ?_
    rintro e w5 ⟨u, rfl, r⟩
    have R := Lib.hid r
    clear r
    go_wp2_with fail
    go_ret
    exact ⟨u, rfl, R.out⟩
end Go.Proofs.Ytaolbalcedhhbaa
