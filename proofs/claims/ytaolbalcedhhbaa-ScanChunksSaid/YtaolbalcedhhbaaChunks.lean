/- The walk of ScanChunks. -/
import Derived.Test.YtaolbalcedhhbaaChunks1
namespace Go.Proofs.Ytaolbalcedhhbaa
open Go.RowKit

/-- What stands in memory between two steps: the boxes of addr and slots, the scan, next, ok. -/
structure St (w0 w : World) (addr : Int) (a : Option Addr) (len cap at_ : Nat) : Prop where
  box0 : w.heap[w0.heap.size]? = some (.cells #[.int .i64 addr] 3 (0, 0))
  box1 : w.heap[w0.heap.size + 1]? = some (.cells #[.slice a len cap] 22 (0, 0))
  sc : Sc w (w0.heap.size + 1 + 1) addr len at_
  next : w.heap[w0.heap.size + 1 + 1 + 1]? = some (.cells #[.int .i64 (at_ : Int)] 3 (0, 0))
  ok : w.heap[w0.heap.size + 1 + 1 + 1 + 1]? = some (.cells #[.bool true] 4 (0, 0))
  bel : Below w0.heap.size w0 w

theorem St.size {w0 w : World} {addr : Int} {a : Option Addr} {len cap at_ : Nat} (h : St w0 w addr a len cap at_) : w0.heap.size + 4 < w.heap.size := lt_of_block h.ok

theorem St.later {w0 w w' : World} {addr : Int} {a : Option Addr} {len cap at_ : Nat} {D : Nat → Prop} (h : St w0 w addr a len cap at_) (t : Turns D w w') (hD : ∀ j, D j → w0.heap.size + 5 ≤ j) : St w0 w' addr a len cap at_ := by
  have hz := h.size
  refine ⟨t.heap h.box0 fun x => ?_, t.heap h.box1 fun x => ?_, t.heap h.sc fun x => ?_, t.heap h.next fun x => ?_, t.heap h.ok fun x => ?_, h.bel.trans (t.toBelow (by omega) fun j hj x => ?_)⟩ <;> (have := hD _ x; omega)

theorem St.cell {w0 w : World} {addr : Int} {a : Option Addr} {len cap at_ b off : Nat} {zs : List Int} (h : St w0 w addr a len cap at_) (hb : b < w0.heap.size)
    (hc : ∀ j, j < len → w0.cell? ⟨b, off + j, none⟩ = some (.int .i64 (zs.getD j 0))) (k : Nat) (hk : k < len) : w.cell? ⟨b, off + k, none⟩ = some (.int .i64 (zs.getD k 0)) :=
  (h.bel.cell hb).trans (hc k hk)

theorem chunks_step (w0 w : World) (addr : Int) (a : Option Addr) (len cap at_ m : Nat) (zs : List Int) (h : St w0 w addr a len cap at_) (hm : m = min (at_ + 16) len) (hat : at_ ≤ len) (hlen : len ≤ 300) (hi : IsInts w0 a len zs) :
    Calls Try.prog 10 #[.pointer (some ⟨w0.heap.size + 1 + 1, 0, none⟩), .func (.func 8) #[] #[.pointer (some ⟨w0.heap.size + 1 + 1 + 1 + 1, 0, none⟩), .pointer (some ⟨w0.heap.size, 0, none⟩), .pointer (some ⟨w0.heap.size + 1 + 1 + 1, 0, none⟩), .pointer (some ⟨w0.heap.size + 1, 0, none⟩)]] w fun e w' => ∃ u, e = .returned u ∧
      w'.ownsRow w.heap.size 3 1 u (nz (fun i => zs.getD (at_ + i) 0) (m - at_)).length ((nz (fun i => zs.getD (at_ + i) 0) (m - at_)).map (Value.int .i64)) ∧
      St w0 w' addr a len cap m ∧ Turns (fun j => w0.heap.size ≤ j ∧ j < w0.heap.size + 5) w w' := by
  have hz := h.size
  refine (step_any 8 _ (fun j => j = w0.heap.size + 1 + 1 + 1 + 1 ∨ j = w0.heap.size + 1 + 1 + 1)
    (fun k W => W.heap[w0.heap.size]? = some (.cells #[.int .i64 addr] 3 (0, 0)) ∧ W.heap[w0.heap.size + 1]? = some (.cells #[.slice a len cap] 22 (0, 0)) ∧ W.heap[w0.heap.size + 1 + 1 + 1]? = some (.cells #[.int .i64 (k : Int)] 3 (0, 0)) ∧
      W.heap[w0.heap.size + 1 + 1 + 1 + 1]? = some (.cells #[.bool true] 4 (0, 0)) ∧ Below w0.heap.size w0 W)
    addr (fun k => zs.getD k 0) (w0.heap.size + 1 + 1) len at_ m w (enters Try.func8 (by kernel_rfl) rfl) h.sc hm hat (by omega) (fun j hj => by omega) ?_ ?_ ⟨h.box0, h.box1, h.next, h.ok, h.bel⟩).mono ?_
  · rintro k W hk1 hk2 ⟨i1, i2, i3, i4, i5⟩ hW
    obtain ⟨b, off, rfl, hb, hc⟩ := hi.2 (by omega)
    refine (chunks1_any (w0.heap.size + 1 + 1 + 1 + 1) w0.heap.size (w0.heap.size + 1 + 1 + 1) (w0.heap.size + 1) b off len cap k addr zs W i4 i1 i3 i2 (by omega) (by omega) ((i5.cell hb).trans (hc k (by omega))) (by omega) (by omega) (by omega) (by omega) (by omega)).mono ?_
    rintro e w' ⟨rfl, h1, h2, h3⟩
    exact ⟨rfl, ⟨h3.heap i1 (by omega), h3.heap i2 (by omega), h2, h1, i5.trans (h3.toBelow (by omega) (fun j hj x => by omega))⟩, h3⟩
  · rintro k W W' ⟨i1, i2, i3, i4, i5⟩ t
    have := lt_of_block i4
    exact ⟨t.heap i1 (by omega), t.heap i2 (by omega), t.heap i3 (by omega), t.heap i4 (by omega), i5.trans (t.toBelow (by omega) (fun j hj x => by omega))⟩
  · rintro e w' ⟨u, rfl, ho, ⟨i1, i2, i3, i4, i5⟩, hs, t⟩
    exact ⟨u, rfl, ho, ⟨i1, i2, hs, i3, i4, i5⟩, t.mono fun j hj _ => by omega⟩

theorem chunks_all (w0 w : World) (addr : Int) (a : Option Addr) (len cap : Nat) (zs : List Int) (h : St w0 w addr a len cap len) (hlen : len ≤ 300) (hi : IsInts w0 a len zs) :
    Calls Try.prog 12 #[.int .i64 (len : Int), .func (.func 13) #[] #[.pointer (some ⟨w0.heap.size + 1, 0, none⟩)]] w fun e w' => ∃ u, e = .returned u ∧ Own w' (w0.heap.size + 5) u (nz (fun i => zs.getD i 0) len) ∧ Turns (fun _ => False) w w' := by
  have hz := h.size
  refine (all_any 13 _ w.heap.size (fun _ W => Turns (fun _ => False) w W) (fun k => zs.getD k 0) len w (enters Try.func13 (by kernel_rfl) rfl) (by omega) ?_ ?_ (Nat.le_refl _) (Turns.refl _ _)).mono ?_
  · intro k W hk hB ht
    obtain ⟨b, off, rfl, hb, hc⟩ := hi.2 (by omega)
    have hW := h.later ht (fun _ x => x.elim)
    refine (chunks2_any (w0.heap.size + 1) b off len cap k zs W hW.box1 hk (hW.cell hb hc k hk)).mono ?_
    rintro e w' ⟨rfl, rfl⟩
    exact ⟨rfl, ht, ⟨Nat.le_refl _, fun _ _ _ => rfl⟩⟩
  · intro k W W' ht hb
    exact ht.below hb (Nat.le_refl _)
  · rintro e w' ⟨u, rfl, ho, ht, _⟩
    exact ⟨u, rfl, ownsRow_base ho (by omega), ht⟩

set_option maxRecDepth 100000 in
theorem chunks_big (addr : Int) (a : Option Addr) (len cap : Nat) (w : World) (hlen : 300 < len) :
    Calls Try.prog 3 #[.int .i64 addr, .slice a len cap] w fun e w' => e = .returned (.bool true) ∧ Turns (fun _ => False) w w' := by
  have hl : (300 : Int) < (len : Int) := by omega
  go_enter Try.func3, Try.ntmps3
  go_wp2_with fail
  refine (told_any _).mono ?_
  rintro e w1 ⟨rfl, t⟩
  have T : Turns (fun _ => False) w w1 := (((Turns.refl _ w).alloc _).alloc _).trans t (fun _ x _ => x) (fun _ x _ => x)
  have T' := Lib.hid T
  clear t T
  go_wp2_with fail
  go_ret
  exact ⟨rfl, T'.out⟩

set_option maxHeartbeats 1000000 in
set_option maxRecDepth 100000 in
theorem chunks_any (addr : Int) (a : Option Addr) (len cap : Nat) (zs : List Int) (w : World) (hlen : len ≤ 300) (hi : IsInts w a len zs) :
    Calls Try.prog 3 #[.int .i64 addr, .slice a len cap] w fun e w' => e = .returned (.bool true) ∧ Below w.heap.size w w' := by
  obtain ⟨i0, hi3, hz0, hz1, hz2⟩ := info_parts Try.info3
  have hl : ¬ ((300 : Int) < (len : Int)) := by omega
  have hmf : ∀ (fn : Fn) (first cap : Array Value) (w : World), (Instr.makeFunc fn first cap).run Try.prog w = .ok (.func fn first cap) w := fun _ _ _ _ => rfl
  obtain ⟨w2, hw2⟩ : ∃ w2, (w.alloc (.cells #[.int .i64 addr] 3)).alloc (.cells #[.slice a len cap] 22) = w2 := ⟨_, rfl⟩
  have z2 : w2.heap.size = w.heap.size + 1 + 1 := by subst hw2; simp
  have N := new_any addr len w2 (by omega)
  rw [z2] at N
  obtain ⟨w5, hw5⟩ : ∃ w5, ((w2.alloc (.cells #[.int .i64 addr, .int .i64 (len : Int), .int .i64 0] 39 (0, 0))).alloc (.cells #[.int .i64 0] 3)).alloc (.cells #[.bool true] 4) = w5 := ⟨_, rfl⟩
  have h5 : St w w5 addr a len cap 0 := by
    subst hw5
    refine ⟨heap_old (heap_old (heap_old ?_)), heap_old (heap_old (heap_old ?_)), heap_old (heap_old (heap_new z2.symm)), heap_old (heap_new (by simp [z2])), heap_new (by simp [z2]), ?_⟩
    · subst hw2; exact heap_old (heap_new rfl)
    · subst hw2; exact heap_new (by simp)
    · subst hw2; exact ((((((Turns.refl (fun _ => False) w).alloc _).alloc _).alloc _).alloc _).alloc _).toBelow (Nat.le_refl _) (fun _ _ x => x)
  have HN := Lib.hid N
  have HW2 := Lib.hid hw2
  have HW5 := Lib.hid hw5
  clear N hw2 hw5
  go_enter Try.func3, Try.ntmps3
  go_wp2_with fail
  rw [HW2.out]
  refine HN.out.mono ?_
  rintro e w3 ⟨rfl, rfl⟩
  go_wp2_with fail
  rw [HW5.out]
  clear z2 HW2 HW5 HN
  go_loopw [9, 10] (fun u i wr => ∃ k at_ : Nat, i = .int .i64 k ∧ at_ ≤ len ∧ (at_ = 16 * k ∨ at_ = len) ∧ 16 * k < len + 16 ∧ St w wr addr a len cap at_ ∧
      Own wr (w.heap.size + 5) u (nz (fun i => zs.getD i 0) at_))
    (fun _ i _ => 30 - (intOf i).toNat)
  case atStart => exact ⟨0, 0, rfl, Nat.zero_le _, Or.inl rfl, by omega, h5, World.ownsRow_nil _ _ _ _⟩
  case round =>
    obtain ⟨k, at_, rfl, hat, hk16, hk, hst, hown⟩ := hrel
    have hsz := hst.size
    by_cases hlt : at_ < len
    · have hne : ((len : Int) - (at_ : Int) == 0) = false := by simp; omega
      have D := done_any _ addr len at_ wr hst.sc (by omega) (by omega) (by omega)
      rw [hne] at D
      go_wp2_with fail
      refine D.mono ?_
      rintro e w6 ⟨rfl, q, hq⟩
      have h6 : St w w6 addr a len cap at_ := by subst hq; exact hst.later (drewN_turns _ _) (fun _ x => x.elim)
      have o6 : Own w6 (w.heap.size + 5) u9 (nz (fun i => zs.getD i 0) at_) := by subst hq; exact hown.later (drewN_turns _ _) (fun _ x => x.elim)
      clear hq D hst hown hne hsz h5
      have n6 := cell_of_one h6.next
      obtain ⟨m, hm⟩ : ∃ m, m = min (at_ + 16) len := ⟨_, rfl⟩
      have S := chunks_step w w6 addr a len cap at_ m zs h6 hm hat hlen hi
      go_wp2_with fail
      refine S.mono ?_
      rintro e w7 ⟨l, rfl, ho7, h7, t7⟩
      have o7 : Own w7 (w.heap.size + 5) u9 (nz (fun i => zs.getD i 0) at_) := o6.later t7 (fun j hj => hj.2)
      have z6 := h6.size
      have l7 : Own w7 (w.heap.size + 5) l (nz (fun i => zs.getD (at_ + i) 0) (m - at_)) := ownsRow_base ho7 (by omega)
      obtain ⟨la, lcap, rfl, il⟩ := IsInts.of_owns l7
      have LM := nz_add (fun i => zs.getD i 0) at_ (m - at_)
      rw [show at_ + (m - at_) = m from by omega] at LM
      obtain ⟨L, hL⟩ : ∃ L, nz (fun i => zs.getD (at_ + i) 0) (m - at_) = L := ⟨_, rfl⟩
      have HL := Lib.hid hL
      have HLM := Lib.hid LM
      rw [hL] at l7 il ⊢
      clear S n6 h6 o6 ho7 t7 z6 hL LM
      have n7 := cell_of_one h7.next
      have k7 := cell_of_one h7.ok
      have b7 := cell_of_one h7.box1
      have F := fun q => left_any _ addr len m (w7.drewN q) h7.sc (by omega) (by omega) (by omega)
      have hw16 : IntKind.i64.wrap ((at_ : Int) + 16) = (at_ : Int) + 16 := IntWalk.i64_in _ (by omega)
      go_wp2_with fail
      have hmin : (if (len : Int) < (at_ : Int) + 16 then (len : Int) else (at_ : Int) + 16) = (m : Int) := by split <;> omega
      have HM := Lib.hid hm
      have hml : m ≤ len := by omega
      have hma : at_ ≤ m := by omega
      have hm16 : m ≤ at_ + 16 := by omega
      clear hm
      go_quiet ((go_at_call 11; refine Calls.quiet_of (F _)))
      clear F hw16 hmin n7 k7 b7
      have h8 := h7.later (drewN_turns w7 nq) (fun _ x => x.elim)
      have o8 := o7.later (drewN_turns w7 nq) (fun _ x => x.elim)
      have l8 := l7.later (drewN_turns w7 nq) (fun _ x => x.elim)
      have i8 := il.later (drewN_turns w7 nq) (fun _ _ _ _ x => x)
      generalize w7.drewN nq = w8 at h8 o8 l8 i8 ⊢
      clear h7 o7 l7 il
      have n8 := cell_of_one h8.next
      have b8 := cell_of_one h8.box1
      go_wp2_with fail
      go_loopw [13, 14] (fun kk ii wr => ∃ i K : Nat, at_ ≤ i ∧ i ≤ m ∧ K = (nz (fun i => zs.getD (at_ + i) 0) (i - at_)).length ∧ ii = .int .i64 (i : Int) ∧ kk = .int .i64 (K : Int) ∧ Turns (fun _ => False) w8 wr)
        (fun _ ii _ => m - (intOf ii).toNat)
      case atStart => exact ⟨at_, 0, by omega, by omega, by rw [Nat.sub_self]; rfl, rfl, rfl, Turns.refl _ _⟩
      case round =>
        obtain ⟨i, K, hi1, hi2, hK, rfl, rfl, ht⟩ := hrel
        have hKle : K ≤ i - at_ := by rw [hK]; exact nz_le _ _
        by_cases him : i < m
        · obtain ⟨b, off, rfl, hb, hc⟩ := hi.2 (by omega)
          have c0 := ht.cell (h8.cell hb hc i (by omega)) (fun x => x)
          have c1 := ht.cell n8 (fun x => x)
          have c2 := ht.cell b8 (fun x => x)
          obtain ⟨x, hx⟩ : ∃ x, zs.getD i 0 = x := ⟨_, rfl⟩
          have ei : at_ + (i - at_) = i := by omega
          have es : i - at_ + 1 = i + 1 - at_ := by omega
          cases hv : (x != 0)
          · have hK' : Hid (K = (nz (fun i => zs.getD (at_ + i) 0) (i + 1 - at_)).length) := by
              rw [← es, nz_miss _ _ (by rw [ei, hx]; exact hv)]; exact hK
            rw [hx] at c0
            clear hK hc hb ei es hx h8 o8 l8 i8 n8 b8 HLM HL HM
            go_wp2_with fail
            go_roundw
            case rel => exact ⟨i + 1, K, by omega, by omega, hK'.out, by go_num, rfl, ht⟩
            case measure => simp [intOf]; omega
          · have hA := nz_at (fun i => zs.getD (at_ + i) 0) (i - at_) (m - at_) (by omega) (by rw [ei, hx]; exact hv)
            rw [HL.out, ← hK, ei] at hA
            have hK' : Hid (K + 1 = (nz (fun i => zs.getD (at_ + i) 0) (i + 1 - at_)).length) := by
              rw [← es, nz_hit _ _ (by rw [ei, hx]; exact hv), List.length_append, ← hK]; rfl
            obtain ⟨g, og, rfl, hg, hcl⟩ := i8.2 (by omega)
            have c3 := ht.cell (hcl K hA.1) (fun x => x)
            rw [hA.2, hx] at c3
            rw [hx] at c0
            have hKL : (K : Int) < (L.length : Int) := by omega
            have hge : decide (L.length ≤ K) = false := by simp; omega
            clear hK hc hb ei es hx h8 o8 l8 i8 n8 b8 HLM HL HM hcl hA
            go_wp2_with fail
            go_quiet (fail)
            go_wp2_with fail
            go_roundw
            case rel => exact ⟨i + 1, K + 1, by omega, by omega, hK'.out, by go_num, by go_num, ht.trans (drewN_turns _ _) (fun _ x _ => x) (fun _ x _ => x)⟩
            case measure => simp [intOf]; omega
        · obtain rfl : i = m := by omega
          have c1 := ht.cell n8 (fun x => x)
          have hKL : ((K : Int) != (L.length : Int)) = false := by rw [hK, HL.out]; simp
          have h9 := h8.later ht (fun _ x => x.elim)
          have o9 := o8.later ht (fun _ x => x.elim)
          have l9 := l8.later ht (fun _ x => x.elim)
          have hle := nz_le (fun i => zs.getD i 0) at_
          have hlL : L.length ≤ i - at_ := by rw [← HL.out]; exact nz_le _ _
          have z9 := h9.size
          clear hK h8 o8 l8 i8 n8 b8 ht
          go_wp2_with (at_builtin; refine wpList_append_both rfl (.tmp 92) (.tmp 93) rfl (w.heap.size + 5) (w.heap.size + 5) _ _ _ _ rfl rfl o9 l9 ?b1 ?b2 ?_)
          case b1 => omega
          case b2 => omega
          intro v' w10 ho hg
          have h10 : St w w10 addr a len cap i := by
            refine h9.later (D := fun j => w.heap.size + 5 ≤ j) ⟨hg.os, hg.tape, hg.output, hg.size, fun j hj hD => hg.block j hj fun e => ?_⟩ (fun _ x => x)
            exact hD (World.ownsRow.lt o9 j e.symm).1
          have ho' : Hid (Own w10 (w.heap.size + 5) v' (nz (fun i => zs.getD i 0) i)) := by rw [HLM.out, HL.out]; exact ho
          have H10 := Lib.hid h10
          have HM16 : Hid (i = 16 * (k + 1) ∨ i = len) := by have := HM.out; show _ ∨ _; omega
          clear ho hg h9 o9 l9 h10 HLM HL HM hlL hle z9
          go_wp2_with fail
          go_roundw
          case rel => exact ⟨k + 1, i, by go_num, by omega, HM16.out, by omega, H10.out, ho'.out⟩
          case measure => simp [intOf]; omega
    · obtain rfl : at_ = len := by omega
      have D := done_any _ addr at_ at_ wr hst.sc (by omega) (by omega) (by omega)
      rw [show ((at_ : Int) - (at_ : Int) == 0) = true from by simp] at D
      go_wp2_with fail
      refine D.mono ?_
      rintro e w6 ⟨rfl, q, hq⟩
      have h6 : St w w6 addr a at_ cap at_ := by subst hq; exact hst.later (drewN_turns _ _) (fun _ x => x.elim)
      have o6 : Own w6 (w.heap.size + 5) u9 (nz (fun i => zs.getD i 0) at_) := by subst hq; exact hown.later (drewN_turns _ _) (fun _ x => x.elim)
      clear hq D hst hown hsz h5
      have b6 := cell_of_one h6.box1
      have A := chunks_all w w6 addr a at_ cap zs h6 hlen hi
      go_wp2_with fail
      refine A.mono ?_
      rintro e w7 ⟨wv, rfl, ow, t7⟩
      have h7 := h6.later t7 (fun _ x => x.elim)
      have o7 := o6.later t7 (fun _ x => x.elim)
      clear A h6 o6 t7 b6
      go_wp2_with fail
      refine (told_any w7).mono ?_
      rintro e w8 ⟨rfl, t8⟩
      have h8 := h7.later t8 (fun _ x => x.elim)
      obtain ⟨ua, ucap, rfl, iu⟩ := IsInts.of_owns (o7.later t8 (fun _ x => x.elim))
      obtain ⟨va, vcap, rfl, iv⟩ := IsInts.of_owns (ow.later t8 (fun _ x => x.elim))
      have hle := nz_le (fun i => zs.getD i 0) at_
      have I := ints_same ua va (nz (fun i => zs.getD i 0) at_).length ucap vcap _ w8 (by omega) iu iv
      have HB := Lib.hid h8.bel
      have b8 := cell_of_one h8.box1
      have n8 := cell_of_one h8.next
      have heq : ((at_ : Int) == (at_ : Int)) = true := by simp
      clear h7 o7 ow t8 h8 iu iv
      go_wp2_with fail
      refine I.mono ?_
      rintro e w9 ⟨rfl, t9⟩
      have HE : Hid (Below w.heap.size w w9) := HB.out.trans (t9.toBelow HB.out.size (fun _ _ x => x))
      clear HB t9 I b8 n8
      go_wp2_with fail
      go_ret
      exact ⟨rfl, HE.out⟩

theorem chunks_walk (a0 : Int) (_w0 : (Lit.int .i64 a0).wf = true) (a : Option Addr) (len cap : Nat) (zs : List Int) (w : World) (h : IsInts w a len zs) :
    Calls Try.prog 3 #[.int .i64 a0, .slice a len cap] w fun e w' => e = .returned (.bool true) ∧ Below w.heap.size w w' := by
  by_cases hl : 300 < len
  · exact (chunks_big a0 a len cap w hl).mono fun _ _ ⟨he, ht⟩ => ⟨he, ht.toBelow (Nat.le_refl _) fun _ _ x => x⟩
  · exact chunks_any a0 a len cap zs w (by omega) h
end Go.Proofs.Ytaolbalcedhhbaa
