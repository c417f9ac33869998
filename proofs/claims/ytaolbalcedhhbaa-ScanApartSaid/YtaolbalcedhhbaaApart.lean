/- The walk of ScanApart. -/
import Derived.Test.YtaolbalcedhhbaaApart1
import Derived.Test.YtaolbalcedhhbaaAppend
import Derived.Deep.DeepCutAuto
import Derived.Deep.LoopGhost
namespace Go.Proofs.Ytaolbalcedhhbaa
open Go.RowKit

/-- '.slice a n _' reads as the bools zs. -/
def IsBools (w : World) (a : Option Addr) (n : Nat) (zs : List Bool) : Prop :=
  zs.length = n ∧ (0 < n → ∃ b off, a = some ⟨b, off, none⟩ ∧ b < w.heap.size ∧ ∀ j, j < n → w.cell? ⟨b, off + j, none⟩ = some (.bool (zs.getD j false)))

structure Sa (w0 w : World) (a b : Option Addr) (la ca lb cb bs bt bx p q : Nat) : Prop where
  box0 : w.heap[w0.heap.size]? = some (.cells #[.slice a la ca] 22 (0, 0))
  box1 : w.heap[w0.heap.size + 1]? = some (.cells #[.slice b lb cb] 22 (0, 0))
  s : Sc w bs 1000 la p
  t : Sc w bt 5000 lb q
  bad : w.heap[bx]? = some (.cells #[.bool false] 4 (0, 0))
  bel : Below w0.heap.size w0 w

structure Places (w0 : World) (bs bt bx : Nat) : Prop where
  s : w0.heap.size + 2 ≤ bs ∧ bs < w0.heap.size + 5
  t : w0.heap.size + 2 ≤ bt ∧ bt < w0.heap.size + 5
  x : w0.heap.size + 2 ≤ bx ∧ bx < w0.heap.size + 5
  st : bs ≠ bt
  sx : bs ≠ bx
  tx : bt ≠ bx

theorem Sa.later {w0 w w' : World} {a b : Option Addr} {la ca lb cb bs bt bx p q : Nat} {D : Nat → Prop} (h : Sa w0 w a b la ca lb cb bs bt bx p q) (P : Places w0 bs bt bx) (t : Turns D w w') (hD : ∀ j, D j → w0.heap.size + 5 ≤ j) :
    Sa w0 w' a b la ca lb cb bs bt bx p q := by
  have h1 := P.s; have h2 := P.t; have h3 := P.x
  have hb := h.bel.size
  refine ⟨t.heap h.box0 fun x => ?_, t.heap h.box1 fun x => ?_, t.heap h.s fun x => ?_, t.heap h.t fun x => ?_, t.heap h.bad fun x => ?_, h.bel.trans (t.toBelow hb fun j hj x => ?_)⟩ <;> (have := hD _ x; omega)

theorem apart_s (w0 w : World) (a b : Option Addr) (la ca lb cb bs bt bx p q m : Nat) (za : List Int) (h : Sa w0 w a b la ca lb cb bs bt bx p q) (P : Places w0 bs bt bx) (hm : m = min (p + 16) la) (hp : p ≤ la) (hla : la ≤ 100) (hi : IsInts w0 a la za) (hz : w0.heap.size + 5 ≤ w.heap.size) :
    Calls Try.prog 10 #[.pointer (some ⟨bs, 0, none⟩), .func (.func 17) #[] #[.pointer (some ⟨w0.heap.size, 0, none⟩), .pointer (some ⟨w0.heap.size + 1, 0, none⟩), .pointer (some ⟨bx, 0, none⟩)]] w fun e w' => ∃ u, e = .returned u ∧
      Own w' w.heap.size u (nz (fun i => za.getD (p + i) 0) (m - p)) ∧ Sa w0 w' a b la ca lb cb bs bt bx m q ∧ Turns (fun j => w0.heap.size ≤ j ∧ j < w0.heap.size + 5) w w' := by
  have h1 := P.s; have h2 := P.t; have h3 := P.x; have h4 := P.st; have h5 := P.sx
  refine (step_any 17 _ (fun _ => False) (fun _ W => W.heap[w0.heap.size]? = some (.cells #[.slice a la ca] 22 (0, 0)) ∧ W.heap[w0.heap.size + 1]? = some (.cells #[.slice b lb cb] 22 (0, 0)) ∧ Sc W bt 5000 lb q ∧
      W.heap[bx]? = some (.cells #[.bool false] 4 (0, 0)) ∧ Below w0.heap.size w0 W)
    1000 (fun k => za.getD k 0) bs la p m w (enters Try.func17 (by kernel_rfl) rfl) h.s hm hp (by omega) (fun j hj => hj.elim) ?_ ?_ ⟨h.box0, h.box1, h.t, h.bad, h.bel⟩).mono ?_
  · rintro k W hk1 hk2 ⟨i1, i2, i3, i4, i5⟩ hW
    obtain ⟨bl, off, rfl, hb, hc⟩ := hi.2 (by omega)
    refine (apart1_a w0.heap.size (w0.heap.size + 1) bx bl off la ca k za W i1 (by omega) ((i5.cell hb).trans (hc k (by omega)))).mono ?_
    rintro e w' ⟨rfl, rfl⟩
    exact ⟨rfl, ⟨i1, i2, i3, i4, i5⟩, Turns.refl _ _⟩
  · rintro k W W' ⟨i1, i2, i3, i4, i5⟩ t
    exact ⟨t.heap i1 (by omega), t.heap i2 (by omega), t.heap i3 (by omega), t.heap i4 (by omega), i5.trans (t.toBelow i5.size (fun j hj x => by omega))⟩
  · rintro e w' ⟨u, rfl, ho, ⟨i1, i2, i3, i4, i5⟩, hs, t⟩
    exact ⟨u, rfl, ho, ⟨i1, i2, hs, i3, i4, i5⟩, t.mono fun j hj _ => by rcases hj with hj | hj; omega; exact hj.elim⟩

theorem apart_t (w0 w : World) (a b : Option Addr) (la ca lb cb bs bt bx p q m : Nat) (zb : List Int) (h : Sa w0 w a b la ca lb cb bs bt bx p q) (P : Places w0 bs bt bx) (hm : m = min (q + 16) lb) (hq : q ≤ lb) (hlb : lb ≤ 100) (hi : IsInts w0 b lb zb) (hz : w0.heap.size + 5 ≤ w.heap.size) :
    Calls Try.prog 10 #[.pointer (some ⟨bt, 0, none⟩), .func (.func 17) #[] #[.pointer (some ⟨w0.heap.size, 0, none⟩), .pointer (some ⟨w0.heap.size + 1, 0, none⟩), .pointer (some ⟨bx, 0, none⟩)]] w fun e w' => ∃ u, e = .returned u ∧
      Own w' w.heap.size u (nz (fun i => zb.getD (q + i) 0) (m - q)) ∧ Sa w0 w' a b la ca lb cb bs bt bx p m ∧ Turns (fun j => w0.heap.size ≤ j ∧ j < w0.heap.size + 5) w w' := by
  have h1 := P.s; have h2 := P.t; have h3 := P.x; have h4 := P.st; have h5 := P.tx
  refine (step_any 17 _ (fun _ => False) (fun _ W => W.heap[w0.heap.size]? = some (.cells #[.slice a la ca] 22 (0, 0)) ∧ W.heap[w0.heap.size + 1]? = some (.cells #[.slice b lb cb] 22 (0, 0)) ∧ Sc W bs 1000 la p ∧
      W.heap[bx]? = some (.cells #[.bool false] 4 (0, 0)) ∧ Below w0.heap.size w0 W)
    5000 (fun k => zb.getD k 0) bt lb q m w (enters Try.func17 (by kernel_rfl) rfl) h.t hm hq (by omega) (fun j hj => hj.elim) ?_ ?_ ⟨h.box0, h.box1, h.s, h.bad, h.bel⟩).mono ?_
  · rintro k W hk1 hk2 ⟨i1, i2, i3, i4, i5⟩ hW
    obtain ⟨bl, off, rfl, hb, hc⟩ := hi.2 (by omega)
    refine (apart1_b w0.heap.size (w0.heap.size + 1) bx bl off lb cb k zb W i2 (by omega) ((i5.cell hb).trans (hc k (by omega)))).mono ?_
    rintro e w' ⟨rfl, rfl⟩
    exact ⟨rfl, ⟨i1, i2, i3, i4, i5⟩, Turns.refl _ _⟩
  · rintro k W W' ⟨i1, i2, i3, i4, i5⟩ t
    exact ⟨t.heap i1 (by omega), t.heap i2 (by omega), t.heap i3 (by omega), t.heap i4 (by omega), i5.trans (t.toBelow i5.size (fun j hj x => by omega))⟩
  · rintro e w' ⟨u, rfl, ho, ⟨i1, i2, i3, i4, i5⟩, hs, t⟩
    exact ⟨u, rfl, ho, ⟨i1, i2, i3, hs, i4, i5⟩, t.mono fun j hj _ => by rcases hj with hj | hj; omega; exact hj.elim⟩

set_option maxRecDepth 100000 in
theorem apart_big (a b c : Option Addr) (la ca lb cb lc cc : Nat) (w : World) (hlen : 100 < la ∨ 100 < lb) :
    Calls Try.prog 5 #[.slice a la ca, .slice b lb cb, .slice c lc cc] w fun e w' => e = .returned (.bool true) ∧ Turns (fun _ => False) w w' := by
  by_cases h : 100 < la
  all_goals
    first
      | have hl : (100 : Int) < (la : Int) := by omega
      | have hl : ¬ (100 : Int) < (la : Int) := by omega
    have hl' : (100 : Int) < (la : Int) ∨ (100 : Int) < (lb : Int) := by omega
  · go_enter Try.func5, Try.ntmps5
    go_wp2_with fail
    refine (told_any _).mono ?_
    rintro e w1 ⟨rfl, t⟩
    have T : Turns (fun _ => False) w w1 := (((Turns.refl _ w).alloc _).alloc _).trans t (fun _ x _ => x) (fun _ x _ => x)
    have T' := Lib.hid T
    clear t T
    go_wp2_with fail
    go_ret
    exact ⟨rfl, T'.out⟩
  · have hl2 : (100 : Int) < (lb : Int) := by omega
    clear hl'
    go_enter Try.func5, Try.ntmps5
    go_wp2_with fail
    refine (told_any _).mono ?_
    rintro e w1 ⟨rfl, t⟩
    have T : Turns (fun _ => False) w w1 := (((Turns.refl _ w).alloc _).alloc _).trans t (fun _ x _ => x) (fun _ x _ => x)
    have T' := Lib.hid T
    clear t T
    go_wp2_with fail
    go_ret
    exact ⟨rfl, T'.out⟩

/-- What holds at each round's head. -/
structure Lp (w0 w : World) (a b : Option Addr) (la ca lb cb bs bt bx p q : Nat) (x y : Value) (za zb : List Int) : Prop where
  sa : Sa w0 w a b la ca lb cb bs bt bx p q
  ox : Own w (w0.heap.size + 5) x (nz (fun i => za.getD i 0) p)
  oy : Own w (w0.heap.size + 5) y (nz (fun i => zb.getD i 0) q)
  sz : w0.heap.size + 5 ≤ w.heap.size
  dj : ∀ g, x.ownBlock = some g → y.ownBlock ≠ some g

section
variable {w0 w w' : World} {a b : Option Addr} {la ca lb cb bs bt bx p q : Nat} {x y : Value} {za zb : List Int}
theorem Lp.later (h : Lp w0 w a b la ca lb cb bs bt bx p q x y za zb) (P : Places w0 bs bt bx) (t : Turns (fun _ => False) w w') : Lp w0 w' a b la ca lb cb bs bt bx p q x y za zb :=
  ⟨h.sa.later P t (fun _ x => x.elim), h.ox.later t (fun _ x => x.elim), h.oy.later t (fun _ x => x.elim), Nat.le_trans h.sz t.size, h.dj⟩
theorem Lp.done_s (h : Lp w0 w a b la ca lb cb bs bt bx p q x y za zb) (P : Places w0 bs bt bx) (hp : p ≤ la) (hla : la ≤ 100) (r : Bool) (hr : r = decide (p = la)) :
    Calls Try.prog 9 #[.pointer (some ⟨bs, 0, none⟩)] w fun e w' => e = .returned (.bool r) ∧ Lp w0 w' a b la ca lb cb bs bt bx p q x y za zb := by
  refine (done_any bs 1000 la p w h.sa.s (by omega) (by omega) (by omega)).mono ?_
  rintro e w' ⟨rfl, n, rfl⟩
  refine ⟨?_, h.later P (drewN_turns _ _)⟩
  rw [hr]
  congr 2
  rw [Bool.eq_iff_iff]; simp; omega
theorem Lp.done_t (h : Lp w0 w a b la ca lb cb bs bt bx p q x y za zb) (P : Places w0 bs bt bx) (hq : q ≤ lb) (hlb : lb ≤ 100) (r : Bool) (hr : r = decide (q = lb)) :
    Calls Try.prog 9 #[.pointer (some ⟨bt, 0, none⟩)] w fun e w' => e = .returned (.bool r) ∧ Lp w0 w' a b la ca lb cb bs bt bx p q x y za zb := by
  refine (done_any bt 5000 lb q w h.sa.t (by omega) (by omega) (by omega)).mono ?_
  rintro e w' ⟨rfl, n, rfl⟩
  refine ⟨?_, h.later P (drewN_turns _ _)⟩
  rw [hr]
  congr 2
  rw [Bool.eq_iff_iff]; simp; omega
theorem Lp.step_s (h : Lp w0 w a b la ca lb cb bs bt bx p q x y za zb) (P : Places w0 bs bt bx) (hp : p ≤ la) (hla : la ≤ 100) (hi : IsInts w0 a la za) (m : Nat) (hm : m = min (p + 16) la) :
    Calls Try.prog 10 #[.pointer (some ⟨bs, 0, none⟩), .func (.func 17) #[] #[.pointer (some ⟨w0.heap.size, 0, none⟩), .pointer (some ⟨w0.heap.size + 1, 0, none⟩), .pointer (some ⟨bx, 0, none⟩)]] w fun e w' => ∃ u, e = .returned u ∧
      Own w' (w0.heap.size + 5) u (nz (fun i => za.getD (p + i) 0) (m - p)) ∧ Own w' (w0.heap.size + 5) x (nz (fun i => za.getD i 0) p) ∧ Own w' (w0.heap.size + 5) y (nz (fun i => zb.getD i 0) q) ∧ Sa w0 w' a b la ca lb cb bs bt bx m q ∧ w0.heap.size + 5 ≤ w'.heap.size := by
  refine (apart_s w0 w a b la ca lb cb bs bt bx p q m za h.sa P hm hp hla hi h.sz).mono ?_
  rintro e w' ⟨u, rfl, ho, hs, ht⟩
  exact ⟨u, rfl, ho.base h.sz, h.ox.later ht (fun _ x => x.2), h.oy.later ht (fun _ x => x.2), hs, Nat.le_trans h.sz ht.size⟩
theorem Lp.step_t (h : Lp w0 w a b la ca lb cb bs bt bx p q x y za zb) (P : Places w0 bs bt bx) (hq : q ≤ lb) (hlb : lb ≤ 100) (hi : IsInts w0 b lb zb) (m : Nat) (hm : m = min (q + 16) lb) :
    Calls Try.prog 10 #[.pointer (some ⟨bt, 0, none⟩), .func (.func 17) #[] #[.pointer (some ⟨w0.heap.size, 0, none⟩), .pointer (some ⟨w0.heap.size + 1, 0, none⟩), .pointer (some ⟨bx, 0, none⟩)]] w fun e w' => ∃ u, e = .returned u ∧
      Own w' (w0.heap.size + 5) u (nz (fun i => zb.getD (q + i) 0) (m - q)) ∧ Own w' (w0.heap.size + 5) y (nz (fun i => zb.getD i 0) q) ∧ Own w' (w0.heap.size + 5) x (nz (fun i => za.getD i 0) p) ∧ Sa w0 w' a b la ca lb cb bs bt bx p m ∧ w0.heap.size + 5 ≤ w'.heap.size := by
  refine (apart_t w0 w a b la ca lb cb bs bt bx p q m zb h.sa P hm hq hlb hi h.sz).mono ?_
  rintro e w' ⟨u, rfl, ho, hs, ht⟩
  exact ⟨u, rfl, ho.base h.sz, h.oy.later ht (fun _ x => x.2), h.ox.later ht (fun _ x => x.2), hs, Nat.le_trans h.sz ht.size⟩
end

theorem nz_step (z : List Int) (p m : Nat) (h : p ≤ m) : nz (fun i => z.getD i 0) m = nz (fun i => z.getD i 0) p ++ nz (fun i => z.getD (p + i) 0) (m - p) := by
  have := nz_add (fun i => z.getD i 0) p (m - p)
  rw [show p + (m - p) = m from by omega] at this
  exact this

theorem lp_grown_s {w0 w4 w5 : World} {a b : Option Addr} {la ca lb cb bs bt bx p q m : Nat} {x y v' : Value} {za zb : List Int} (P : Places w0 bs bt bx) (hs : Sa w0 w4 a b la ca lb cb bs bt bx m q)
    (hx : Own w4 (w0.heap.size + 5) x (nz (fun i => za.getD i 0) p)) (hy : Own w4 (w0.heap.size + 5) y (nz (fun i => zb.getD i 0) q)) (hv : Own w5 (w0.heap.size + 5) v' (nz (fun i => za.getD i 0) p ++ nz (fun i => za.getD (p + i) 0) (m - p)))
    (hz : w0.heap.size + 5 ≤ w4.heap.size) (hg : w4.grownBy w5 x.ownBlock) (hb : ∀ g, v'.ownBlock = some g → x.ownBlock = some g ∨ w4.heap.size ≤ g) (hpm : p ≤ m) (dj : ∀ g, x.ownBlock = some g → y.ownBlock ≠ some g) :
    Lp w0 w5 a b la ca lb cb bs bt bx m q v' y za zb := by
  have T : Turns (fun j => x.ownBlock = some j) w4 w5 := ⟨hg.os, hg.tape, hg.output, hg.size, fun k hk hD => hg.block k hk fun e => hD e.symm⟩
  refine ⟨hs.later P T (fun j hj => (World.ownsRow.lt hx j hj).1), by rw [nz_step za p m hpm]; exact hv, T.owns hy (fun g hg hx' => dj g hx' hg), Nat.le_trans hz T.size, fun g hg' hy' => ?_⟩
  rcases hb g hg' with h | h
  · exact dj g h hy'
  · have := (World.ownsRow.lt hy g hy').2; omega
theorem lp_grown_t {w0 w4 w5 : World} {a b : Option Addr} {la ca lb cb bs bt bx p q m : Nat} {x y v' : Value} {za zb : List Int} (P : Places w0 bs bt bx) (hs : Sa w0 w4 a b la ca lb cb bs bt bx p m)
    (hy : Own w4 (w0.heap.size + 5) y (nz (fun i => zb.getD i 0) q)) (hx : Own w4 (w0.heap.size + 5) x (nz (fun i => za.getD i 0) p)) (hv : Own w5 (w0.heap.size + 5) v' (nz (fun i => zb.getD i 0) q ++ nz (fun i => zb.getD (q + i) 0) (m - q)))
    (hz : w0.heap.size + 5 ≤ w4.heap.size) (hg : w4.grownBy w5 y.ownBlock) (hb : ∀ g, v'.ownBlock = some g → y.ownBlock = some g ∨ w4.heap.size ≤ g) (hqm : q ≤ m) (dj : ∀ g, x.ownBlock = some g → y.ownBlock ≠ some g) :
    Lp w0 w5 a b la ca lb cb bs bt bx p m x v' za zb := by
  have T : Turns (fun j => y.ownBlock = some j) w4 w5 := ⟨hg.os, hg.tape, hg.output, hg.size, fun k hk hD => hg.block k hk fun e => hD e.symm⟩
  refine ⟨hs.later P T (fun j hj => (World.ownsRow.lt hy j hj).1), T.owns hx (fun g hg hy' => dj g hg hy'), by rw [nz_step zb q m hqm]; exact hv, Nat.le_trans hz T.size, fun g hx' hg' => ?_⟩
  rcases hb g hg' with h | h
  · exact dj g hx' h
  · have := (World.ownsRow.lt hx g hx').2; omega

theorem turn_cases (k lc : Nat) (zc : List Bool) : lc ≤ k ∨ (k < lc ∧ 100 ≤ k) ∨ (k < lc ∧ k < 100 ∧ zc.getD k false = false) ∨ (k < lc ∧ k < 100 ∧ zc.getD k false = true) := by
  rcases Nat.lt_or_ge k lc with h | h
  · rcases Nat.lt_or_ge k 100 with h' | h'
    · cases hz : zc.getD k false
      · exact Or.inr (Or.inr (Or.inl ⟨h, h', rfl⟩))
      · exact Or.inr (Or.inr (Or.inr ⟨h, h', rfl⟩))
    · exact Or.inr (Or.inl ⟨h, h'⟩)
  · exact Or.inl h

def Met3 (A : Nat) (w2 : World) (la lb : Nat) (s t : Value) (wx : World) : Prop :=
  ∃ bs bt : Nat, s = .pointer (some ⟨bs, 0, none⟩) ∧ t = .pointer (some ⟨bt, 0, none⟩) ∧ bs ≠ bt ∧ wx.heap.size = A + 4 ∧ (bs = A + 2 ∨ bs = A + 3) ∧ (bt = A + 2 ∨ bt = A + 3) ∧
     Sc wx bs 1000 la 0 ∧ Sc wx bt 5000 lb 0 ∧ Turns (fun _ => False) w2 wx
theorem met_st {A : Nat} {w2 : World} {la lb : Nat} (z : w2.heap.size = A + 1 + 1) : Met3 A w2 la lb (.pointer (some ⟨w2.heap.size, 0, none⟩)) (.pointer (some ⟨w2.heap.size + 1, 0, none⟩))
    ((w2.alloc (.cells #[.int .i64 1000, .int .i64 (la : Int), .int .i64 0] 39 (0, 0))).alloc (.cells #[.int .i64 5000, .int .i64 (lb : Int), .int .i64 0] 39 (0, 0))).drew :=
  ⟨_, _, rfl, rfl, by omega, by show (((w2.alloc _).alloc _)).heap.size = _; simp; omega, by omega, by omega, heap_old (heap_new rfl), heap_new (by simp), ((Turns.refl _ _).alloc _).alloc _ |>.drew⟩
theorem met_ts {A : Nat} {w2 : World} {la lb : Nat} (z : w2.heap.size = A + 1 + 1) : Met3 A w2 la lb (.pointer (some ⟨w2.heap.size + 1, 0, none⟩)) (.pointer (some ⟨w2.heap.size, 0, none⟩))
    ((w2.alloc (.cells #[.int .i64 5000, .int .i64 (lb : Int), .int .i64 0] 39 (0, 0))).alloc (.cells #[.int .i64 1000, .int .i64 (la : Int), .int .i64 0] 39 (0, 0))).drew :=
  ⟨_, _, rfl, rfl, by omega, by show (((w2.alloc _).alloc _)).heap.size = _; simp; omega, by omega, by omega, heap_new (by simp), heap_old (heap_new rfl), ((Turns.refl _ _).alloc _).alloc _ |>.drew⟩

set_option maxHeartbeats 2000000 in
set_option maxRecDepth 100000 in
theorem apart_any (a b c : Option Addr) (la ca lb cb lc cc : Nat) (za zb : List Int) (zc : List Bool) (w : World) (hla : la ≤ 100) (hlb : lb ≤ 100) (hia : IsInts w a la za) (hib : IsInts w b lb zb) (hic : IsBools w c lc zc) :
    Calls Try.prog 5 #[.slice a la ca, .slice b lb cb, .slice c lc cc] w fun e w' => e = .returned (.bool true) ∧ Below w.heap.size w w' := by
  have hl1 : ¬ ((100 : Int) < (la : Int)) := by omega
  have hl2 : ¬ ((100 : Int) < (lb : Int)) := by omega
  have hmf : ∀ (fn : Fn) (first cap : Array Value) (w : World), (Instr.makeFunc fn first cap).run Try.prog w = .ok (.func fn first cap) w := fun _ _ _ _ => rfl
  obtain ⟨w2, hw2⟩ : ∃ w2, (w.alloc (.cells #[.slice a la ca] 22)).alloc (.cells #[.slice b lb cb] 22) = w2 := ⟨_, rfl⟩
  have z2 : w2.heap.size = w.heap.size + 1 + 1 := by subst hw2; simp
  have b0 : w2.heap[w.heap.size]? = some (.cells #[.slice a la ca] 22 (0, 0)) := by subst hw2; exact heap_old (heap_new rfl)
  have b1 : w2.heap[w.heap.size + 1]? = some (.cells #[.slice b lb cb] 22 (0, 0)) := by subst hw2; exact heap_new (by simp)
  have bel2 : Below w.heap.size w w2 := by subst hw2; exact (((Turns.refl (fun _ => False) w).alloc _).alloc _).toBelow (Nat.le_refl _) (fun _ _ x => x)
  have HW2 := Lib.hid hw2
  have Z2 := Lib.hid z2
  have B0 := Lib.hid b0
  have B1 := Lib.hid b1
  clear hw2 z2 b0 b1
  go_enter Try.func5, Try.ntmps5
  go_wp2_with fail
  rw [HW2.out]
  go_cut [7, 8] (fun s t wx => Met3 w.heap.size w2 la lb s t wx)
  case first =>
    have c0 := cell_of_one B0.out
    have c1 := cell_of_one B1.out
    have c0' : ∀ o, (w2.alloc o).cell? ⟨w.heap.size, 0, none⟩ = some (.slice a la ca) := fun o => (World.cell?_alloc_past _ _ _ (lt_of_block B0.out)).trans c0
    have c1' : ∀ o, (w2.alloc o).cell? ⟨w.heap.size + 1, 0, none⟩ = some (.slice b lb cb) := fun o => (World.cell?_alloc_past _ _ _ (lt_of_block B1.out)).trans c1
    have hA := fun W => new_any 1000 la W (by omega)
    have hB := fun W => new_any 5000 lb W (by omega)
    go_region_with (first
      | (go_at_call_of 7 (Value.int IntKind.i64 1000); refine (hA _).mono ?_; rintro e w' ⟨rfl, rfl⟩)
      | (go_at_call_of 7 (Value.int IntKind.i64 5000); refine (hB _).mono ?_; rintro e w' ⟨rfl, rfl⟩))
    all_goals
      go_wp2_with fail
      go_meet
      first
        | exact met_st Z2.out
        | exact met_ts Z2.out
  case rest =>
    obtain ⟨bs, bt, rfl, rfl, hne, zc0, hs, ht, s0, t0, T0⟩ := hcut
    obtain ⟨wd, hwd⟩ : ∃ wd, wc.alloc (.cells #[.bool false] 4) = wd := ⟨_, rfl⟩
    have P : Places w bs bt (w.heap.size + 4) := ⟨by omega, by omega, by omega, hne, by omega, by omega⟩
    have L0 : Lp w wd a b la ca lb cb bs bt (w.heap.size + 4) 0 0 (.slice none 0 0) (.slice none 0 0) za zb := by
      subst hwd
      exact ⟨⟨heap_old (T0.heap B0.out (fun x => x)), heap_old (T0.heap B1.out (fun x => x)), heap_old s0, heap_old t0, heap_new zc0.symm, bel2.trans ((T0.alloc _).toBelow bel2.size (fun _ _ x => x))⟩, World.ownsRow_nil _ _ _ _, World.ownsRow_nil _ _ _ _, by simp; omega, fun g hg => by simp [Value.ownBlock] at hg⟩
    have HWD := Lib.hid hwd
    clear hwd hs ht
    go_wp2_with fail
    rw [HWD.out]
    clear HWD s0 t0 T0 HW2 Z2 B0 B1 zc0
    go_loopw [11, 12, 13] (fun x y i wr => ∃ k p q : Nat, k ≤ 200 ∧ i = .int .i64 k ∧ p ≤ la ∧ q ≤ lb ∧ (la - p + 15) / 16 + (lb - q + 15) / 16 + k ≤ 114 ∧ Lp w wr a b la ca lb cb bs bt (w.heap.size + 4) p q x y za zb)
      (fun _ _ i _ => 200 - (intOf i).toNat)
    case atStart => exact ⟨0, 0, 0, by omega, rfl, by omega, by omega, by omega, L0⟩
    case round =>
      obtain ⟨k, p, q, hk, rfl, hp, hq, hrem, L⟩ := hrel
      clear L0
      by_cases hA : p < la
      · have hk2 : (k : Int) < 200 := by omega
        rcases turn_cases k lc zc with h1 | ⟨h1, h2⟩ | ⟨h1, h2, h3⟩ | ⟨h1, h2, h3⟩
        · have hlt : ¬ ((k : Int) < (lc : Int)) := by omega
          have hA' : ¬ (p = la) := by omega
          go_wp2_with fail
          refine (L.done_s P (by omega) (by omega) false (by simp; omega)).mono ?_
          rintro e w3 ⟨rfl, L3⟩
          clear L
          have L := L3
          clear L3
          go_wp2_with fail
          refine (L.done_s P (by omega) (by omega) false (by simp; omega)).mono ?_
          rintro e w3 ⟨rfl, L3⟩
          clear L
          have L := L3
          clear L3
          obtain ⟨m, hm⟩ : ∃ m, m = min (p + 16) la := ⟨_, rfl⟩
          have S := L.step_s P (by omega) (by omega) hia m hm
          have hm1 : p ≤ m := by omega
          have hm2 : m ≤ la := by omega
          have HREM : Hid ((la - m + 15) / 16 + (lb - q + 15) / 16 + (k + 1) ≤ 114) := by show (la - m + 15) / 16 + (lb - q + 15) / 16 + (k + 1) ≤ 114; omega
          have DJ := Lib.hid L.dj
          clear L hm
          go_wp2_with fail
          refine S.mono ?_
          rintro e w4 ⟨u, rfl, o1, o2, o3, hs, hz⟩
          have hl1 := nz_le (fun i => za.getD i 0) p
          have hl2 := nz_le (fun i => za.getD (p + i) 0) (m - p)
          clear S
          go_wp2_with (at_builtin; refine wpList_append_where rfl (.tmp 74) (.tmp 77) rfl (w.heap.size + 5) (w.heap.size + 5) _ _ _ _ rfl rfl o2 o1 ?b1 ?b2 ?_)
          case b1 => omega
          case b2 => exact hz
          intro v' w5 ho hg hbk
          have L5 : Hid (Lp w w5 a b la ca lb cb bs bt (w.heap.size + 4) m q v' u12 za zb) := lp_grown_s P hs o2 o3 ho hz hg hbk hm1 DJ.out
          clear ho hg hbk hs o1 o2 o3 hz hl1 hl2
          go_wp2_with fail
          go_roundw
          case rel => exact ⟨k + 1, m, q, by omega, by go_num, by omega, by omega, HREM.out, L5.out⟩
          case measure => simp [intOf]; omega
        · have hlt : (k : Int) < (lc : Int) := by omega
          have hk100 : ¬ ((k : Int) < 100) := by omega
          have hA' : ¬ (p = la) := by omega
          go_wp2_with fail
          refine (L.done_s P (by omega) (by omega) false (by simp; omega)).mono ?_
          rintro e w3 ⟨rfl, L3⟩
          clear L
          have L := L3
          clear L3
          go_wp2_with fail
          refine (L.done_s P (by omega) (by omega) false (by simp; omega)).mono ?_
          rintro e w3 ⟨rfl, L3⟩
          clear L
          have L := L3
          clear L3
          obtain ⟨m, hm⟩ : ∃ m, m = min (p + 16) la := ⟨_, rfl⟩
          have S := L.step_s P (by omega) (by omega) hia m hm
          have hm1 : p ≤ m := by omega
          have hm2 : m ≤ la := by omega
          have HREM : Hid ((la - m + 15) / 16 + (lb - q + 15) / 16 + (k + 1) ≤ 114) := by show (la - m + 15) / 16 + (lb - q + 15) / 16 + (k + 1) ≤ 114; omega
          have DJ := Lib.hid L.dj
          clear L hm
          go_wp2_with fail
          refine S.mono ?_
          rintro e w4 ⟨u, rfl, o1, o2, o3, hs, hz⟩
          have hl1 := nz_le (fun i => za.getD i 0) p
          have hl2 := nz_le (fun i => za.getD (p + i) 0) (m - p)
          clear S
          go_wp2_with (at_builtin; refine wpList_append_where rfl (.tmp 74) (.tmp 77) rfl (w.heap.size + 5) (w.heap.size + 5) _ _ _ _ rfl rfl o2 o1 ?b1 ?b2 ?_)
          case b1 => omega
          case b2 => exact hz
          intro v' w5 ho hg hbk
          have L5 : Hid (Lp w w5 a b la ca lb cb bs bt (w.heap.size + 4) m q v' u12 za zb) := lp_grown_s P hs o2 o3 ho hz hg hbk hm1 DJ.out
          clear ho hg hbk hs o1 o2 o3 hz hl1 hl2
          go_wp2_with fail
          go_roundw
          case rel => exact ⟨k + 1, m, q, by omega, by go_num, by omega, by omega, HREM.out, L5.out⟩
          case measure => simp [intOf]; omega
        · have hlt : (k : Int) < (lc : Int) := by omega
          have hk100 : (k : Int) < 100 := by omega
          obtain ⟨cb_, off_, rfl, hb_, hc_⟩ := hic.2 (by omega)
          have hcl : ∀ wx, Below w.heap.size w wx → wx.cell? ⟨cb_, off_ + k, none⟩ = some (.bool false) := fun wx hx => (hx.cell hb_).trans (by rw [hc_ k (by omega), h3])
          have hA' : ¬ (p = la) := by omega
          go_wp2_with fail
          refine (L.done_s P (by omega) (by omega) false (by simp; omega)).mono ?_
          rintro e w3 ⟨rfl, L3⟩
          clear L
          have L := L3
          clear L3
          have hcell := hcl _ L.sa.bel
          go_wp2_with fail
          refine (L.done_s P (by omega) (by omega) false (by simp; omega)).mono ?_
          rintro e w3 ⟨rfl, L3⟩
          clear L
          have L := L3
          clear L3
          obtain ⟨m, hm⟩ : ∃ m, m = min (p + 16) la := ⟨_, rfl⟩
          have S := L.step_s P (by omega) (by omega) hia m hm
          have hm1 : p ≤ m := by omega
          have hm2 : m ≤ la := by omega
          have HREM : Hid ((la - m + 15) / 16 + (lb - q + 15) / 16 + (k + 1) ≤ 114) := by show (la - m + 15) / 16 + (lb - q + 15) / 16 + (k + 1) ≤ 114; omega
          have DJ := Lib.hid L.dj
          clear L hm
          go_wp2_with fail
          refine S.mono ?_
          rintro e w4 ⟨u, rfl, o1, o2, o3, hs, hz⟩
          have hl1 := nz_le (fun i => za.getD i 0) p
          have hl2 := nz_le (fun i => za.getD (p + i) 0) (m - p)
          clear S
          go_wp2_with (at_builtin; refine wpList_append_where rfl (.tmp 74) (.tmp 77) rfl (w.heap.size + 5) (w.heap.size + 5) _ _ _ _ rfl rfl o2 o1 ?b1 ?b2 ?_)
          case b1 => omega
          case b2 => exact hz
          intro v' w5 ho hg hbk
          have L5 : Hid (Lp w w5 a b la ca lb cb bs bt (w.heap.size + 4) m q v' u12 za zb) := lp_grown_s P hs o2 o3 ho hz hg hbk hm1 DJ.out
          clear ho hg hbk hs o1 o2 o3 hz hl1 hl2
          go_wp2_with fail
          go_roundw
          case rel => exact ⟨k + 1, m, q, by omega, by go_num, by omega, by omega, HREM.out, L5.out⟩
          case measure => simp [intOf]; omega
        · have hlt : (k : Int) < (lc : Int) := by omega
          have hk100 : (k : Int) < 100 := by omega
          obtain ⟨cb_, off_, rfl, hb_, hc_⟩ := hic.2 (by omega)
          have hcl : ∀ wx, Below w.heap.size w wx → wx.cell? ⟨cb_, off_ + k, none⟩ = some (.bool true) := fun wx hx => (hx.cell hb_).trans (by rw [hc_ k (by omega), h3])
          have hA' : ¬ (p = la) := by omega
          go_wp2_with fail
          refine (L.done_s P (by omega) (by omega) false (by simp; omega)).mono ?_
          rintro e w3 ⟨rfl, L3⟩
          clear L
          have L := L3
          clear L3
          obtain ⟨m, hm⟩ : ∃ m, m = min (q + 16) lb := ⟨_, rfl⟩
          have S := L.step_t P (by omega) (by omega) hib m hm
          have hm1 : q ≤ m := by omega
          have hm2 : m ≤ lb := by omega
          have HREM : Hid ((la - p + 15) / 16 + (lb - m + 15) / 16 + (k + 1) ≤ 114) := by show (la - p + 15) / 16 + (lb - m + 15) / 16 + (k + 1) ≤ 114; omega
          have hcell := hcl _ L.sa.bel
          have DJ := Lib.hid L.dj
          clear L hm
          go_wp2_with fail
          refine S.mono ?_
          rintro e w4 ⟨u, rfl, o1, o2, o3, hs, hz⟩
          have hl1 := nz_le (fun i => zb.getD i 0) q
          have hl2 := nz_le (fun i => zb.getD (q + i) 0) (m - q)
          clear S
          go_wp2_with (at_builtin; refine wpList_append_where rfl (.tmp 69) (.tmp 72) rfl (w.heap.size + 5) (w.heap.size + 5) _ _ _ _ rfl rfl o2 o1 ?b1 ?b2 ?_)
          case b1 => omega
          case b2 => exact hz
          intro v' w5 ho hg hbk
          have L5 : Hid (Lp w w5 a b la ca lb cb bs bt (w.heap.size + 4) p m u11 v' za zb) := lp_grown_t P hs o2 o3 ho hz hg hbk hm1 DJ.out
          clear ho hg hbk hs o1 o2 o3 hz hl1 hl2
          go_wp2_with fail
          go_roundw
          case rel => exact ⟨k + 1, p, m, by omega, by go_num, by omega, by omega, HREM.out, L5.out⟩
          case measure => simp [intOf]; omega
      · by_cases hB : q < lb
        · have hk2 : (k : Int) < 200 := by omega
          rcases turn_cases k lc zc with h1 | ⟨h1, h2⟩ | ⟨h1, h2, h3⟩ | ⟨h1, h2, h3⟩
          · have hlt : ¬ ((k : Int) < (lc : Int)) := by omega
            have hB' : ¬ (q = lb) := by omega
            go_wp2_with fail
            refine (L.done_s P (by omega) (by omega) true (by simp; omega)).mono ?_
            rintro e w3 ⟨rfl, L3⟩
            clear L
            have L := L3
            clear L3
            go_wp2_with fail
            refine (L.done_t P (by omega) (by omega) false (by simp; omega)).mono ?_
            rintro e w3 ⟨rfl, L3⟩
            clear L
            have L := L3
            clear L3
            go_wp2_with fail
            refine (L.done_s P (by omega) (by omega) true (by simp; omega)).mono ?_
            rintro e w3 ⟨rfl, L3⟩
            clear L
            have L := L3
            clear L3
            obtain ⟨m, hm⟩ : ∃ m, m = min (q + 16) lb := ⟨_, rfl⟩
            have S := L.step_t P (by omega) (by omega) hib m hm
            have hm1 : q ≤ m := by omega
            have hm2 : m ≤ lb := by omega
            have HREM : Hid ((la - p + 15) / 16 + (lb - m + 15) / 16 + (k + 1) ≤ 114) := by show (la - p + 15) / 16 + (lb - m + 15) / 16 + (k + 1) ≤ 114; omega
            have DJ := Lib.hid L.dj
            clear L hm
            go_wp2_with fail
            refine S.mono ?_
            rintro e w4 ⟨u, rfl, o1, o2, o3, hs, hz⟩
            have hl1 := nz_le (fun i => zb.getD i 0) q
            have hl2 := nz_le (fun i => zb.getD (q + i) 0) (m - q)
            clear S
            go_wp2_with (at_builtin; refine wpList_append_where rfl (.tmp 69) (.tmp 72) rfl (w.heap.size + 5) (w.heap.size + 5) _ _ _ _ rfl rfl o2 o1 ?b1 ?b2 ?_)
            case b1 => omega
            case b2 => exact hz
            intro v' w5 ho hg hbk
            have L5 : Hid (Lp w w5 a b la ca lb cb bs bt (w.heap.size + 4) p m u11 v' za zb) := lp_grown_t P hs o2 o3 ho hz hg hbk hm1 DJ.out
            clear ho hg hbk hs o1 o2 o3 hz hl1 hl2
            go_wp2_with fail
            go_roundw
            case rel => exact ⟨k + 1, p, m, by omega, by go_num, by omega, by omega, HREM.out, L5.out⟩
            case measure => simp [intOf]; omega
          · have hlt : (k : Int) < (lc : Int) := by omega
            have hk100 : ¬ ((k : Int) < 100) := by omega
            have hB' : ¬ (q = lb) := by omega
            go_wp2_with fail
            refine (L.done_s P (by omega) (by omega) true (by simp; omega)).mono ?_
            rintro e w3 ⟨rfl, L3⟩
            clear L
            have L := L3
            clear L3
            go_wp2_with fail
            refine (L.done_t P (by omega) (by omega) false (by simp; omega)).mono ?_
            rintro e w3 ⟨rfl, L3⟩
            clear L
            have L := L3
            clear L3
            go_wp2_with fail
            refine (L.done_s P (by omega) (by omega) true (by simp; omega)).mono ?_
            rintro e w3 ⟨rfl, L3⟩
            clear L
            have L := L3
            clear L3
            obtain ⟨m, hm⟩ : ∃ m, m = min (q + 16) lb := ⟨_, rfl⟩
            have S := L.step_t P (by omega) (by omega) hib m hm
            have hm1 : q ≤ m := by omega
            have hm2 : m ≤ lb := by omega
            have HREM : Hid ((la - p + 15) / 16 + (lb - m + 15) / 16 + (k + 1) ≤ 114) := by show (la - p + 15) / 16 + (lb - m + 15) / 16 + (k + 1) ≤ 114; omega
            have DJ := Lib.hid L.dj
            clear L hm
            go_wp2_with fail
            refine S.mono ?_
            rintro e w4 ⟨u, rfl, o1, o2, o3, hs, hz⟩
            have hl1 := nz_le (fun i => zb.getD i 0) q
            have hl2 := nz_le (fun i => zb.getD (q + i) 0) (m - q)
            clear S
            go_wp2_with (at_builtin; refine wpList_append_where rfl (.tmp 69) (.tmp 72) rfl (w.heap.size + 5) (w.heap.size + 5) _ _ _ _ rfl rfl o2 o1 ?b1 ?b2 ?_)
            case b1 => omega
            case b2 => exact hz
            intro v' w5 ho hg hbk
            have L5 : Hid (Lp w w5 a b la ca lb cb bs bt (w.heap.size + 4) p m u11 v' za zb) := lp_grown_t P hs o2 o3 ho hz hg hbk hm1 DJ.out
            clear ho hg hbk hs o1 o2 o3 hz hl1 hl2
            go_wp2_with fail
            go_roundw
            case rel => exact ⟨k + 1, p, m, by omega, by go_num, by omega, by omega, HREM.out, L5.out⟩
            case measure => simp [intOf]; omega
          · have hlt : (k : Int) < (lc : Int) := by omega
            have hk100 : (k : Int) < 100 := by omega
            obtain ⟨cb_, off_, rfl, hb_, hc_⟩ := hic.2 (by omega)
            have hcl : ∀ wx, Below w.heap.size w wx → wx.cell? ⟨cb_, off_ + k, none⟩ = some (.bool false) := fun wx hx => (hx.cell hb_).trans (by rw [hc_ k (by omega), h3])
            have hB' : ¬ (q = lb) := by omega
            go_wp2_with fail
            refine (L.done_s P (by omega) (by omega) true (by simp; omega)).mono ?_
            rintro e w3 ⟨rfl, L3⟩
            clear L
            have L := L3
            clear L3
            go_wp2_with fail
            refine (L.done_t P (by omega) (by omega) false (by simp; omega)).mono ?_
            rintro e w3 ⟨rfl, L3⟩
            clear L
            have L := L3
            clear L3
            have hcell := hcl _ L.sa.bel
            go_wp2_with fail
            refine (L.done_s P (by omega) (by omega) true (by simp; omega)).mono ?_
            rintro e w3 ⟨rfl, L3⟩
            clear L
            have L := L3
            clear L3
            obtain ⟨m, hm⟩ : ∃ m, m = min (q + 16) lb := ⟨_, rfl⟩
            have S := L.step_t P (by omega) (by omega) hib m hm
            have hm1 : q ≤ m := by omega
            have hm2 : m ≤ lb := by omega
            have HREM : Hid ((la - p + 15) / 16 + (lb - m + 15) / 16 + (k + 1) ≤ 114) := by show (la - p + 15) / 16 + (lb - m + 15) / 16 + (k + 1) ≤ 114; omega
            have DJ := Lib.hid L.dj
            clear L hm
            go_wp2_with fail
            refine S.mono ?_
            rintro e w4 ⟨u, rfl, o1, o2, o3, hs, hz⟩
            have hl1 := nz_le (fun i => zb.getD i 0) q
            have hl2 := nz_le (fun i => zb.getD (q + i) 0) (m - q)
            clear S
            go_wp2_with (at_builtin; refine wpList_append_where rfl (.tmp 69) (.tmp 72) rfl (w.heap.size + 5) (w.heap.size + 5) _ _ _ _ rfl rfl o2 o1 ?b1 ?b2 ?_)
            case b1 => omega
            case b2 => exact hz
            intro v' w5 ho hg hbk
            have L5 : Hid (Lp w w5 a b la ca lb cb bs bt (w.heap.size + 4) p m u11 v' za zb) := lp_grown_t P hs o2 o3 ho hz hg hbk hm1 DJ.out
            clear ho hg hbk hs o1 o2 o3 hz hl1 hl2
            go_wp2_with fail
            go_roundw
            case rel => exact ⟨k + 1, p, m, by omega, by go_num, by omega, by omega, HREM.out, L5.out⟩
            case measure => simp [intOf]; omega
          · have hlt : (k : Int) < (lc : Int) := by omega
            have hk100 : (k : Int) < 100 := by omega
            obtain ⟨cb_, off_, rfl, hb_, hc_⟩ := hic.2 (by omega)
            have hcl : ∀ wx, Below w.heap.size w wx → wx.cell? ⟨cb_, off_ + k, none⟩ = some (.bool true) := fun wx hx => (hx.cell hb_).trans (by rw [hc_ k (by omega), h3])
            have hB' : ¬ (q = lb) := by omega
            go_wp2_with fail
            refine (L.done_s P (by omega) (by omega) true (by simp; omega)).mono ?_
            rintro e w3 ⟨rfl, L3⟩
            clear L
            have L := L3
            clear L3
            go_wp2_with fail
            refine (L.done_t P (by omega) (by omega) false (by simp; omega)).mono ?_
            rintro e w3 ⟨rfl, L3⟩
            clear L
            have L := L3
            clear L3
            obtain ⟨m, hm⟩ : ∃ m, m = min (q + 16) lb := ⟨_, rfl⟩
            have S := L.step_t P (by omega) (by omega) hib m hm
            have hm1 : q ≤ m := by omega
            have hm2 : m ≤ lb := by omega
            have HREM : Hid ((la - p + 15) / 16 + (lb - m + 15) / 16 + (k + 1) ≤ 114) := by show (la - p + 15) / 16 + (lb - m + 15) / 16 + (k + 1) ≤ 114; omega
            have hcell := hcl _ L.sa.bel
            have DJ := Lib.hid L.dj
            clear L hm
            go_wp2_with fail
            refine S.mono ?_
            rintro e w4 ⟨u, rfl, o1, o2, o3, hs, hz⟩
            have hl1 := nz_le (fun i => zb.getD i 0) q
            have hl2 := nz_le (fun i => zb.getD (q + i) 0) (m - q)
            clear S
            go_wp2_with (at_builtin; refine wpList_append_where rfl (.tmp 69) (.tmp 72) rfl (w.heap.size + 5) (w.heap.size + 5) _ _ _ _ rfl rfl o2 o1 ?b1 ?b2 ?_)
            case b1 => omega
            case b2 => exact hz
            intro v' w5 ho hg hbk
            have L5 : Hid (Lp w w5 a b la ca lb cb bs bt (w.heap.size + 4) p m u11 v' za zb) := lp_grown_t P hs o2 o3 ho hz hg hbk hm1 DJ.out
            clear ho hg hbk hs o1 o2 o3 hz hl1 hl2
            go_wp2_with fail
            go_roundw
            case rel => exact ⟨k + 1, p, m, by omega, by go_num, by omega, by omega, HREM.out, L5.out⟩
            case measure => simp [intOf]; omega
        · have hk2 : (k : Int) < 200 := by omega
          obtain rfl : p = la := by omega
          obtain rfl : q = lb := by omega
          go_wp2_with fail
          refine (L.done_s P (by omega) (by omega) true (by simp)).mono ?_
          rintro e w3 ⟨rfl, L3⟩
          clear L
          go_wp2_with fail
          refine (L3.done_t P (by omega) (by omega) true (by simp)).mono ?_
          rintro e w4 ⟨rfl, L4⟩
          clear L3
          go_wp2_with fail
          refine (told_any w4).mono ?_
          rintro e w5 ⟨rfl, t5⟩
          have L5 := L4.later P t5
          clear L4 t5
          have cx := cell_of_one L5.sa.bad
          have c0 := cell_of_one L5.sa.box0
          have c1 := cell_of_one L5.sa.box1
          go_wp2_with fail
          refine (apart2_any b q cb zb w5 (by omega) (hib.later (Turns.ofBelow L5.sa.bel) (fun b' off h1 h2 h3 => by have := hib.2 h1; obtain ⟨b2, o2, e2, h4, _⟩ := this; rw [h2] at e2; simp only [Option.some.injEq, Addr.mk.injEq] at e2; omega))).mono ?_
          rintro e w6 ⟨u, rfl, ou, t6⟩
          have L6 := L5.later P t6
          obtain ⟨ya, ycap, hy, iy⟩ := IsInts.of_owns L6.oy
          obtain ⟨ua, ucap, rfl, iu⟩ := IsInts.of_owns ou
          have hn1 := nz_le (fun i => zb.getD i 0) q
          have hn2 := nz_le (fun i => za.getD i 0) p
          have I := ints_same ya ua _ ycap ucap _ w6 (by omega) iy iu
          clear L5 t6 cx c0 c1 iu iy ou
          have c0 := cell_of_one L6.sa.box0
          have HY := Lib.hid hy
          clear hy
          go_wp2_with fail
          rw [HY.out]
          refine I.mono ?_
          rintro e w7 ⟨rfl, t7⟩
          have L7 := L6.later P t7
          clear L6 t7 I c0
          have c0 := cell_of_one L7.sa.box0
          go_wp2_with fail
          refine (apart2_any a p ca za w7 (by omega) (hia.later (Turns.ofBelow L7.sa.bel) (fun b' off h1 h2 h3 => by have := hia.2 h1; obtain ⟨b2, o2, e2, h4, _⟩ := this; rw [h2] at e2; simp only [Option.some.injEq, Addr.mk.injEq] at e2; omega))).mono ?_
          rintro e w8 ⟨u, rfl, ou, t8⟩
          have L8 := L7.later P t8
          obtain ⟨xa, xcap, hx, ix⟩ := IsInts.of_owns L8.ox
          obtain ⟨ua, ucap, rfl, iu⟩ := IsInts.of_owns ou
          have I := ints_same xa ua _ xcap ucap _ w8 (by omega) ix iu
          clear L7 t8 c0 iu ix ou
          have HX := Lib.hid hx
          clear hx
          go_wp2_with fail
          rw [HX.out]
          refine I.mono ?_
          rintro e w9 ⟨rfl, t9⟩
          have L9 := L8.later P t9
          clear L8 t9 I
          go_wp2_with fail
          refine (L9.done_s P (by omega) (by omega) true (by simp)).mono ?_
          rintro e w10 ⟨rfl, L10⟩
          clear L9
          go_wp2_with fail
          refine (L10.done_t P (by omega) (by omega) true (by simp)).mono ?_
          rintro e w11 ⟨rfl, L11⟩
          clear L10
          have HB := Lib.hid L11.sa.bel
          clear L11
          go_wp2_with fail
          go_ret
          exact ⟨rfl, HB.out⟩

theorem apart_walk (a : Option Addr) (la ca : Nat) (za : List Int) {w : World} (hia : IsInts w a la za) (b : Option Addr) (lb cb : Nat) (zb : List Int) (hib : IsInts w b lb zb) (c : Option Addr) (lc cc : Nat) (zc : List Bool) (hic : IsBools w c lc zc) :
    Calls Try.prog 5 #[.slice a la ca, .slice b lb cb, .slice c lc cc] w fun e w' => e = .returned (.bool true) ∧ Below w.heap.size w w' := by
  by_cases hl : 100 < la ∨ 100 < lb
  · exact (apart_big a b c la ca lb cb lc cc w hl).mono fun _ _ ⟨he, ht⟩ => ⟨he, ht.toBelow (Nat.le_refl _) fun _ _ x => x⟩
  · exact apart_any a b c la ca lb cb lc cc za zb zc w (by omega) (by omega) hia hib hic
end Go.Proofs.Ytaolbalcedhhbaa
