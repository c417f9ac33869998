/- code: Decode by contract. Printed by wip/tools/dec_gen.py. -/
import Derived.Test.YtedgeoigapilnaaPrg
import Derived.Test.YtedgeoigapilnaaDoor
namespace Go.Proofs.Ytedgeoigapilnaa
open Go.RowKit
set_option linter.unusedSimpArgs false

/-- What Decode answers. -/
def DecPost (w : World) (r : Except Nat Pr) (e : Ending) (w' : World) : Prop :=
  Turns (fun _ => False) w w' ∧ match r with
  | .error i => e = .returned (.tuple #[.agg #[.int .i64 0, .slice none 0 0], .int .i64 6, .int .i64 (i : Int)])
  | .ok p => ∃ v, e = .returned (.tuple #[.agg #[.int .i64 p.g, v], .int .i64 0, .int .i64 0]) ∧ Funcs w' v p.fs

theorem dec_panics {w w1 w2 : World} {a : Act} {p q r i : Nat} {v0 v1 x y : Value} {D : Nat → Prop} {res : Except Nat Pr} (hres : res = .error i) (hd : a.defers = dfr p q r)
    (h2 : a.tmps[2]? = some (.pointer (some ⟨p, 0, none⟩))) (h3 : a.tmps[3]? = some (.pointer (some ⟨q, 0, none⟩))) (h4 : a.tmps[4]? = some (.pointer (some ⟨r, 0, none⟩)))
    (h5 : w.heap.size ≤ p) (h6 : w.heap.size ≤ q) (h7 : w.heap.size ≤ r) (h8 : p ≠ q) (h9 : p ≠ r) (h10 : q ≠ r)
    (hp : Row w2 p 24 [v0, v1]) (hq : Row w2 q 3 [x]) (hr : Row w2 r 3 [y]) (T1 : Turns (fun _ => False) w w1) (T : Turns D w1 w2) (hD : ∀ j, D j → w.heap.size ≤ j) :
    bodyPostD Try.prog Try.f13 (DecPost w res) (.panic (thrown i)) a w2 := by
  refine door_panic i hd h2 h3 h4 hp hq hr h8 h9 h10 fun w' t => ?_
  subst hres
  refine ⟨?_, rfl⟩
  refine (T1.trans (E := fun _ => False) (T.trans (E := fun j => w.heap.size ≤ j) t (fun j h _ => hD j h) (fun j h _ => ?_)) (fun j h _ => h.elim) (fun j h h' => ?_))
  · rcases h with rfl | rfl | rfl <;> assumption
  · omega

theorem dec_returns {w w1 w2 : World} {a : Act} {p q r : Nat} {g : Int} {v : Value} {D : Nat → Prop} {res : Except Nat Pr} {fs : List (List In)} (hres : res = .ok ⟨g, fs⟩) (hd : a.defers = dfr p q r)
    (h2 : a.tmps[2]? = some (.pointer (some ⟨p, 0, none⟩))) (h3 : a.tmps[3]? = some (.pointer (some ⟨q, 0, none⟩))) (h4 : a.tmps[4]? = some (.pointer (some ⟨r, 0, none⟩)))
    (hp : Row w2 p 24 [.int .i64 g, v]) (hq : Row w2 q 3 [.int .i64 0]) (hr : Row w2 r 3 [.int .i64 0]) (hF : Funcs w2 v fs) (T1 : Turns (fun _ => False) w w1) (T : Turns D w1 w2) (hD : ∀ j, D j → w.heap.size ≤ j) :
    bodyPostD Try.prog Try.f13 (DecPost w res) .ret a w2 := by
  refine door_ret hd h2 h3 h4 hp hq hr fun w' t => ?_
  subst hres
  refine ⟨?_, v, rfl, hF.later t⟩
  refine (T1.trans (E := fun _ => False) (T.trans (E := fun j => w.heap.size ≤ j) t (fun j h _ => hD j h) (fun j h _ => h.elim)) (fun j h _ => h.elim) (fun j h h' => ?_))
  omega

set_option maxHeartbeats 4000000 in
set_option maxRecDepth 100000 in
theorem decode_any (a : Option Addr) (n cap : Nat) (zs : List Int) (w : World) (B : IsBytes w a n zs) (hn : n ≤ 1000000) :
    Calls Try.prog 13 #[.slice a n cap] w (DecPost w (decR zs)) := by
  have hmf : ∀ (fn : Fn) (first cap : Array Value) (w : World), (Instr.makeFunc fn first cap).run Try.prog w = .ok (.func fn first cap) w := fun _ _ _ _ => rfl
  obtain ⟨w1, hw1⟩ : ∃ w1, ((((w.alloc (.cells #[.int .i64 0, .slice none 0 0] 24)).alloc (.cells #[.int .i64 0] 3)).alloc (.cells #[.int .i64 0] 3)).alloc (.cells #[.slice a n cap, .int .i64 0] 55)) = w1 := ⟨_, rfl⟩
  have T1 : Turns (fun _ => False) w w1 := by subst hw1; exact ((((Turns.refl _ _).alloc _).alloc _).alloc _).alloc _
  have R1 : Row w1 w.heap.size 24 [.int .i64 0, .slice none 0 0] := by subst hw1; exact (((Row.alloc (heap_new rfl) _).alloc _).alloc _)
  have R2 : Row w1 (w.heap.size + 1) 3 [.int .i64 0] := by subst hw1; exact ((Row.alloc (heap_new (by simp)) _).alloc _)
  have R3 : Row w1 (w.heap.size + 1 + 1) 3 [.int .i64 0] := by subst hw1; exact (Row.alloc (heap_new (by simp)) _)
  have R4 : Row w1 (w.heap.size + 1 + 1 + 1) 55 [.slice a n cap, .int .i64 0] := by subst hw1; exact (heap_new (by simp))
  have Z1 : w1.heap.size = w.heap.size + 1 + 1 + 1 + 1 := by subst hw1; simp
  have HZ1 := Lib.hid Z1
  have H1 := Lib.hid hw1
  have HT1 := Lib.hid T1
  have HR1 := Lib.hid R1
  have HR2 := Lib.hid R2
  have HR3 := Lib.hid R3
  clear hw1 Z1 T1 R1 R2 R3
  have B1 := B.later HT1.out (fun _ _ _ x => x)
  cases hb0 : byteR zs 0 1 16 with
  | error i =>
    have HS := Lib.hid (decR_err0 hb0)
    have C := next_err 0 R4 B1 hn 1 16 hb0
    clear hb0 B1 R4
    go_enter_defers Try.func13, Try.ntmps13
    go_wp2_with fail
    rw [H1.out]
    refine C.mono ?_
    rintro e w2 ⟨rfl, T2⟩
    have HT2 := Lib.hid T2
    clear T2
    go_wp2_with fail
    exact dec_panics HS.out rfl rfl rfl rfl (by omega) (by omega) (by omega) (by omega) (by omega) (by omega) (HR1.out.later HT2.out (fun x => x)) (HR2.out.later HT2.out (fun x => x)) (HR3.out.later HT2.out (fun x => x)) HT1.out HT2.out (fun j h => h.elim)
  | ok nn =>
    have C := next_val 0 R4 B1 hn 1 16 hb0
    obtain ⟨nlt, nv, n1, n16⟩ := byteR_ok hb0
    have hap : ∀ b o, a = some ⟨b, o, none⟩ → b < w.heap.size := fun b o e => by
      obtain ⟨b', o', e', hb', _⟩ := B.at_ 0 (by rw [← B.len]; exact nlt)
      rw [e'] at e
      cases e
      exact hb'
    obtain ⟨N, rfl⟩ : ∃ N : Nat, nn = (N : Int) := ⟨nn.toNat, by omega⟩
    have Hb0 := Lib.hid hb0
    clear nv hb0 B1 R4
    cases hb1 : byteR zs 1 0 32 with
    | error i =>
      have HS := Lib.hid (decR_err1 Hb0.out hb1)
      go_enter_defers Try.func13, Try.ntmps13
      go_wp2_with fail
      rw [H1.out]
      refine C.mono ?_
      clear C
      rintro e w2 ⟨rfl, R2, T2⟩
      have HR2' := Lib.hid R2
      have HT2 := Lib.hid T2
      clear T2 R2
      go_wp2_with fail
      refine (next_err 1 HR2'.out (B.later ((HT1.out.mono (E := fun x => x = w.heap.size + 1 + 1 + 1) (fun _ x _ => x.elim)).then HT2.out) (fun b o e => by have := hap b o e; omega)) hn 0 32 hb1).mono ?_
      rintro e w3 ⟨rfl, T3⟩
      have HT3 := Lib.hid (HT2.out.then (T3.mono fun _ x _ => x.elim))
      clear T3 HT2
      go_wp2_with fail
      exact dec_panics HS.out rfl rfl rfl rfl (by omega) (by omega) (by omega) (by omega) (by omega) (by omega) (HR1.out.later HT3.out (by omega)) (HR2.out.later HT3.out (by omega)) (HR3.out.later HT3.out (by omega)) HT1.out HT3.out (fun j h => by omega)
    | ok g =>
      obtain ⟨glt, gv, g0, g32⟩ := byteR_ok hb1
      clear gv
      have wg : (Lit.int .i64 g).wf = true := WalkArith.wf_i64 (by omega)
      have wN : (Lit.int .i64 (N : Int)).wf = true := WalkArith.wf_i64 (by omega)
      have Hb1 := Lib.hid hb1
      clear hb1
      go_enter_defers Try.func13, Try.ntmps13
      go_wp2_with fail
      rw [H1.out]
      refine C.mono ?_
      clear C
      rintro e w2 ⟨rfl, R2, T2⟩
      have HR2' := Lib.hid R2
      have HT2 := Lib.hid T2
      clear T2 R2
      go_wp2_with fail
      refine (next_val 1 HR2'.out (B.later ((HT1.out.mono (E := fun x => x = w.heap.size + 1 + 1 + 1) (fun _ x _ => x.elim)).then HT2.out) (fun b o e => by have := hap b o e; omega)) hn 0 32 Hb1.out).mono ?_
      rintro e w3 ⟨rfl, R3, T3⟩
      have HT3 := Lib.hid (HT2.out.then T3)
      have P1 := HR1.out.later HT3.out (by omega)
      have fp0 := P1.free 0
      have lp := P1.lt
      have HP4 := Lib.hid (R3.other 0 (.int .i64 g) (b' := w.heap.size) (by omega))
      have HP1 := Lib.hid (P1.set 0 (.int .i64 g))
      have HT4 := Lib.hid (((HT3.out.mono (E := fun x => x = w.heap.size ∨ x = w.heap.size + 1 + 1 + 1) (fun _ x _ => Or.inr x)).setCell (p := ⟨w.heap.size, 0, none⟩) (Or.inl (Or.inl rfl)) (.int .i64 g)))
      have p0 := P1.cell 0 _ rfl
      obtain ⟨w4, hw4⟩ : ∃ w4, w3.setCell ⟨w.heap.size, 0, none⟩ (.int .i64 g) = w4 := ⟨_, rfl⟩
      rw [hw4] at HP1 HP4 HT4
      have Hw4 := Lib.hid hw4
      clear T3 HT2 P1 R3 HR2' HT3 hw4
      go_wp2_with fail
      rw [Hw4.out]
      clear Hw4 p0 fp0 lp H1 HR1
      go_loopw [19] (fun kv wr => ∃ (k : Nat) (fs : List (List In)) (ov : Value) (i : Nat), k ≤ N ∧ kv = .int .i64 (k : Int) ∧ Hid (fs.length = k ∧ funcsR zs g N (N - k) i fs = funcsR zs g N N 2 []) ∧
          Row wr w.heap.size 24 [.int .i64 g, ov] ∧ Row wr (w.heap.size + 1 + 1 + 1) 55 [.slice a n cap, .int .i64 (i : Int)] ∧ FV wr (w.heap.size + 4) ov fs ∧ Turns (fun x => x = w.heap.size ∨ x = w.heap.size + 1 + 1 + 1) w1 wr)
        (fun kv _ => N - (intOf kv).toNat)
      case atStart => exact ⟨0, [], _, 2, by omega, rfl, Lib.hid ⟨rfl, rfl⟩, HP1.out, HP4.out, FV.nil _ _, HT4.out⟩
      case round =>
        clear HP1 HP4 HT4
        obtain ⟨k, fs, ov, i, hk, rfl, hsp, P1, P4, F, T⟩ := hrel
        by_cases h4 : k < N
        · have c0 := P1.cell 0 _ rfl
          have HP1 := Lib.hid P1
          have HP4 := Lib.hid P4
          have HF := Lib.hid F
          have HT := Lib.hid T
          clear P1 P4 F T
          go_wp2_with fail
          have B2 := (B.later ((HT1.out.mono (E := fun x => x = w.heap.size ∨ x = w.heap.size + 1 + 1 + 1) (fun _ x _ => x.elim)).then HT.out) (fun b o e => by have := hap b o e; omega)).later ((Turns.refl (fun _ => False) _).drew) (fun _ _ _ x => x)
          have hN : N - k = (N - (k + 1)) + 1 := by omega
          have HN := Lib.hid hN
          clear hN
          cases hb : byteR zs i 1 64 with
          | error x =>
            have HE : Hid (decR zs = .error x) := Lib.hid (decR_err Hb0.out Hb1.out (by rw [← hsp.out.2, HN.out]; exact funcsR_err0 hb))
            have Hb := Lib.hid hb
            clear hb
            refine wp_region_held_drew (S := (fun w' => w'.cell? ⟨w.heap.size, 0, none⟩ = some (.int .i64 g))) (by kernel_rfl) ?_ (fun hHeld => ?_)
            · exact HP1.out.drew.cell 0 _ rfl
            refine wpAnyH_take (i := 0) (v := ?_) rfl (by kernel_rfl) (by kernel_rfl) (by kernel_rfl) (fun c a w h => dec_put (by decide) (by decide) (by decide) c a w h) (Or.inl ⟨by rfl, ?_⟩) (by assumption) ?_
            rotate_left
            · (intro w' hSw; (try dsimp only at hSw); first | (go_simp; done) | (go_simp; with_reducible rfl))
            try simp only [Act.put, List.getElem_toArray, List.getElem_cons_zero, List.getElem_cons_succ, List.setIfInBounds_toArray, List.set_cons_zero, List.set_cons_succ]
            refine wpAnyH_take (i := 1) (v := ?_) rfl (by kernel_rfl) (by kernel_rfl) (by kernel_rfl) (fun c a w h => dec_put (by decide) (by decide) (by decide) c a w h) (Or.inl ⟨by rfl, ?_⟩) (by assumption) ?_
            rotate_left
            · (intro w' hSw; (try dsimp only at hSw); first | (go_simp; done) | (go_simp; with_reducible rfl))
            try simp only [Act.put, List.getElem_toArray, List.getElem_cons_zero, List.getElem_cons_succ, List.setIfInBounds_toArray, List.set_cons_zero, List.set_cons_succ]
            refine wpAnyH_take (i := 2) (v := ?_) rfl (by kernel_rfl) (by kernel_rfl) (by kernel_rfl) (fun c a w h => dec_put (by decide) (by decide) (by decide) c a w h) (Or.inl ⟨by rfl, ?_⟩) (by assumption) ?_
            rotate_left
            · (intro w' hSw; (try dsimp only at hSw); first | (go_simp; done) | (go_simp; with_reducible rfl))
            try simp only [Act.put, List.getElem_toArray, List.getElem_cons_zero, List.getElem_cons_succ, List.setIfInBounds_toArray, List.set_cons_zero, List.set_cons_succ]
            refine wpAnyH_take (i := 3) (v := ?_) rfl (by kernel_rfl) (by kernel_rfl) (by kernel_rfl) (fun c a w h => dec_put (by decide) (by decide) (by decide) c a w h) (Or.inl ⟨by rfl, ?_⟩) (by assumption) ?_
            rotate_left
            · (intro w' hSw; (try dsimp only at hSw); first | (go_simp; done) | (go_simp; with_reducible rfl))
            try simp only [Act.put, List.getElem_toArray, List.getElem_cons_zero, List.getElem_cons_succ, List.setIfInBounds_toArray, List.set_cons_zero, List.set_cons_succ]
            refine wpAnyH_ready (rs := [4, 6]) (by kernel_rfl) (by simp) ?_
            refine AllReadyH.cons rfl (fun K hK => ?_) (AllReadyH.cons rfl (fun K hK => ?_) AllReadyH.nil)
            · go_simp
              refine (next_err i HP4.out.drew B2 hn 1 64 Hb.out).mono ?_
              rintro e w5 ⟨rfl, T5⟩
              have T6 := HT.out.drew.then (T5.mono (fun _ x _ => x.elim))
              go_wp2_with fail
              exact dec_panics HE.out rfl rfl rfl rfl (by omega) (by omega) (by omega) (by omega) (by omega) (by omega) (HP1.out.drew.later T5 (fun x => x)) (HR2.out.later T6 (by omega)) (HR3.out.later T6 (by omega)) HT1.out T6 (fun j h => by omega)
            · go_simp
              refine hK.out _ _ ?_ (fun hHeld => ?_)
              · exact (HP1.out.alloc _).drew.cell 0 _ rfl
              clear hK K
              try simp only [Act.put, List.getElem_toArray, List.getElem_cons_zero, List.getElem_cons_succ, List.setIfInBounds_toArray, List.set_cons_zero, List.set_cons_succ]
              refine wpAnyH_ready (rs := [4]) (by kernel_rfl) (by simp) ?_
              refine AllReadyH.cons rfl (fun K hK => ?_) AllReadyH.nil
              go_simp
              refine (next_err i (HP4.out.alloc _).drew (B2.later ((Turns.refl (fun _ => False) _).alloc _) (fun _ _ _ x => x)) hn 1 64 Hb.out).mono ?_
              rintro e w5 ⟨rfl, T5⟩
              have T6 := (HT.out.alloc _).drew.then (T5.mono (fun _ x _ => x.elim))
              go_wp2_with fail
              exact dec_panics HE.out rfl rfl rfl rfl (by omega) (by omega) (by omega) (by omega) (by omega) (by omega) ((HP1.out.alloc _).drew.later T5 (fun x => x)) (HR2.out.later T6 (by omega)) (HR3.out.later T6 (by omega)) HT1.out T6 (fun j h => by omega)
          | ok s =>
            have Hb := Lib.hid hb
            clear hb
            refine wp_region_held_drew (S := (fun w' => w'.cell? ⟨w.heap.size, 0, none⟩ = some (.int .i64 g))) (by kernel_rfl) ?_ (fun hHeld => ?_)
            · exact HP1.out.drew.cell 0 _ rfl
            refine wpAnyH_take (i := 0) (v := ?_) rfl (by kernel_rfl) (by kernel_rfl) (by kernel_rfl) (fun c a w h => dec_put (by decide) (by decide) (by decide) c a w h) (Or.inl ⟨by rfl, ?_⟩) (by assumption) ?_
            rotate_left
            · (intro w' hSw; (try dsimp only at hSw); first | (go_simp; done) | (go_simp; with_reducible rfl))
            try simp only [Act.put, List.getElem_toArray, List.getElem_cons_zero, List.getElem_cons_succ, List.setIfInBounds_toArray, List.set_cons_zero, List.set_cons_succ]
            refine wpAnyH_take (i := 1) (v := ?_) rfl (by kernel_rfl) (by kernel_rfl) (by kernel_rfl) (fun c a w h => dec_put (by decide) (by decide) (by decide) c a w h) (Or.inl ⟨by rfl, ?_⟩) (by assumption) ?_
            rotate_left
            · (intro w' hSw; (try dsimp only at hSw); first | (go_simp; done) | (go_simp; with_reducible rfl))
            try simp only [Act.put, List.getElem_toArray, List.getElem_cons_zero, List.getElem_cons_succ, List.setIfInBounds_toArray, List.set_cons_zero, List.set_cons_succ]
            refine wpAnyH_take (i := 2) (v := ?_) rfl (by kernel_rfl) (by kernel_rfl) (by kernel_rfl) (fun c a w h => dec_put (by decide) (by decide) (by decide) c a w h) (Or.inl ⟨by rfl, ?_⟩) (by assumption) ?_
            rotate_left
            · (intro w' hSw; (try dsimp only at hSw); first | (go_simp; done) | (go_simp; with_reducible rfl))
            try simp only [Act.put, List.getElem_toArray, List.getElem_cons_zero, List.getElem_cons_succ, List.setIfInBounds_toArray, List.set_cons_zero, List.set_cons_succ]
            refine wpAnyH_take (i := 3) (v := ?_) rfl (by kernel_rfl) (by kernel_rfl) (by kernel_rfl) (fun c a w h => dec_put (by decide) (by decide) (by decide) c a w h) (Or.inl ⟨by rfl, ?_⟩) (by assumption) ?_
            rotate_left
            · (intro w' hSw; (try dsimp only at hSw); first | (go_simp; done) | (go_simp; with_reducible rfl))
            try simp only [Act.put, List.getElem_toArray, List.getElem_cons_zero, List.getElem_cons_succ, List.setIfInBounds_toArray, List.set_cons_zero, List.set_cons_succ]
            refine wpAnyH_ready (rs := [4, 6]) (by kernel_rfl) (by simp) ?_
            refine AllReadyH.cons rfl (fun K hK => ?_) (AllReadyH.cons rfl (fun K hK => ?_) AllReadyH.nil)
            · go_simp
              refine (next_val i HP4.out.drew B2 hn 1 64 Hb.out).mono ?_
              rintro e w5 ⟨rfl, R5, T5⟩
              refine hK.out _ _ ?_ (fun hHeld => ?_)
              · exact (HP1.out.drew.later T5 (by omega)).cell 0 _ rfl
              clear hK K
              try simp only [Act.put, List.getElem_toArray, List.getElem_cons_zero, List.getElem_cons_succ, List.setIfInBounds_toArray, List.set_cons_zero, List.set_cons_succ]
              refine wpAnyH_take (i := 5) (v := ?_) rfl (by kernel_rfl) (by kernel_rfl) (by kernel_rfl) (fun c a w h => dec_put (by decide) (by decide) (by decide) c a w h) (Or.inl ⟨by rfl, ?_⟩) (by assumption) ?_
              rotate_left
              · (intro w' hSw; (try dsimp only at hSw); first | (go_simp; done) | (go_simp; with_reducible rfl))
              try simp only [Act.put, List.getElem_toArray, List.getElem_cons_zero, List.getElem_cons_succ, List.setIfInBounds_toArray, List.set_cons_zero, List.set_cons_succ]
              refine wpAnyH_ready (rs := [6]) (by kernel_rfl) (by simp) ?_
              refine AllReadyH.cons rfl (fun K hK => ?_) AllReadyH.nil
              go_simp
              clear hHeld
              refine hK.out _ _ ?_ (fun hHeld => ?_)
              · exact ((HP1.out.drew.later T5 (by omega)).alloc _).cell 0 _ rfl
              clear hK K
              try simp only [Act.put, List.getElem_toArray, List.getElem_cons_zero, List.getElem_cons_succ, List.setIfInBounds_toArray, List.set_cons_zero, List.set_cons_succ]
              refine wpAnyH_ready (rs := [7]) (by kernel_rfl) (by simp) ?_
              refine AllReadyH.cons rfl (fun K hK => ?_) AllReadyH.nil
              go_simp
              have A1 : Row (w5.alloc (.cells #[.int .i64 g, .int .i64 N, .int .i64 s] 48)) w5.heap.size 48 [.int .i64 g, .int .i64 N, .int .i64 s] := heap_new rfl
              have A3 := R5.alloc (.cells #[.int .i64 g, .int .i64 N, .int .i64 s] 48)
              have TT := (((Turns.refl (fun _ => False) wr).drew.mono (E := fun x => x = w.heap.size + 1 + 1 + 1) (fun _ x _ => x.elim)).then T5).alloc (.cells #[.int .i64 g, .int .i64 N, .int .i64 s] 48)
              have A2 := HP1.out.later TT (by omega)
              have A4 := HF.out.later TT (fun g h _ => by omega)
              have A5 := HT.out.then (TT.mono (E := fun x => x = w.heap.size ∨ x = w.heap.size + 1 + 1 + 1) (fun _ x _ => Or.inr x))
              clear hHeld
              refine hK.out _ _ (A2.cell 0 _ rfl) (fun hHeld => ?_)
              clear hK K R5 T5 TT hHeld
              try simp only [Act.put, List.getElem_toArray, List.getElem_cons_zero, List.getElem_cons_succ, List.setIfInBounds_toArray, List.set_cons_zero, List.set_cons_succ]
              refine wpAnyH_done (by kernel_rfl) ?_ _
              generalize w5.alloc (.cells #[.int .i64 g, .int .i64 N, .int .i64 s] 48) = wx at A1 A2 A3 A4 A5 ⊢
              generalize w5.heap.size = x at A1 ⊢
              clear B2 HP1 HP4 HF HT c0
              (try clear hHeld); (try clear hHeld); (try clear hHeld)
              clear wr
              obtain ⟨slt, sv, s1, s64⟩ := byteR_ok Hb.out
              obtain ⟨S, rfl⟩ : ∃ S : Nat, s = (S : Int) := ⟨s.toNat, by omega⟩
              clear sv
              replace A1 : Row wx x 48 [.int .i64 g, .int .i64 N, .int .i64 S] := A1
              have hxr : x ≠ w.heap.size + 1 + 1 + 1 := by
                rintro rfl
                have h := A1.symm.trans A3
                simp at h
              have wS : (Lit.int .i64 (S : Int)).wf = true := WalkArith.wf_i64 (by omega)
              have HGe : Hid (∀ e, instsR zs g N S S (i + 1) [] = .error e → decR zs = .error e) :=
                Lib.hid fun e he => decR_err Hb0.out Hb1.out (by rw [← hsp.out.2, HN.out]; exact funcsR_err Hb.out he)
              have HGo : Hid (∀ l j, instsR zs g N S S (i + 1) [] = .ok (l, j) → funcsR zs g N (N - (k + 1)) j (fs ++ [l]) = funcsR zs g N N 2 []) :=
                Lib.hid fun l j he => by rw [← hsp.out.2, HN.out]; exact (funcsR_ok Hb.out he).symm
              have x2 := A1.cell 2 _ rfl
              have HA1 := Lib.hid A1
              have HA2 := Lib.hid A2
              have HA3 := Lib.hid A3
              have HA4 := Lib.hid A4
              have HA5 := Lib.hid A5
              have Lx := A1.lt
              have Lr := A3.lt
              have Lp := A2.lt
              clear A1 A2 A3 A4 A5 Hb
              go_wp2_with fail
              go_loopw [8, 29] (fun lv jv wr => ∃ (j : Nat) (l : List In), j ≤ S ∧ jv = .int .i64 (j : Int) ∧ Hid (l.length = j ∧ instsR zs g N S (S - j) (i + 1 + 4 * j) l = instsR zs g N S S (i + 1) []) ∧
                  Row wr (w.heap.size + 1 + 1 + 1) 55 [.slice a n cap, .int .i64 ((i + 1 + 4 * j : Nat) : Int)] ∧ IV wr wx.heap.size lv l ∧ Turns (fun y => y = w.heap.size + 1 + 1 + 1) wx wr)
                (fun _ jv _ => S - (intOf jv).toNat)
              case atStart => exact ⟨0, [], by omega, rfl, Lib.hid ⟨rfl, rfl⟩, HA3.out, View.zero _ _ _ _, Turns.refl _ _⟩
              case round =>
                obtain ⟨j, l, hj, rfl, hsi, R, V, TI⟩ := hrel
                by_cases hjS : j < S
                · have B2 := (B.later HT1.out (fun _ _ _ x => x)).later (HA5.out.then (TI.mono fun _ x _ => Or.inr x)) (fun b o e => by have := hap b o e; omega)
                  have A1 := HA1.out.later TI hxr
                  have x0 := A1.cell 0 _ rfl
                  have x1 := A1.cell 1 _ rfl
                  have x2 := A1.cell 2 _ rfl
                  have HR := Lib.hid R
                  have HV := Lib.hid V
                  have HTI := Lib.hid TI
                  have HB2 := Lib.hid B2
                  have HSj := Lib.hid (show S - j = (S - (j + 1)) + 1 by omega)
                  clear R V TI A1 B2
                  cases hI : instR zs (i + 1 + 4 * j) (wrongI g N S) 4 in0 with
                  | error y =>
                    have HE := Lib.hid (HGe.out y (by rw [← hsi.out.2, HSj.out]; exact instsR_err hI))
                    have C := inst_err g N S _ HR.out HB2.out (fun b o e => by have := hap b o e; omega) hn wg wN wS hI
                    clear hI
                    go_wp2_with fail
                    refine C.mono ?_
                    clear C
                    rintro e w6 ⟨rfl, T6⟩
                    have T7 := HTI.out.then T6
                    have T8 := HA5.out.then (T7.mono (E := fun x => x = w.heap.size ∨ x = w.heap.size + 1 + 1 + 1) (fun _ x _ => Or.inr x))
                    have H7 := Lib.hid T7
                    have H8 := Lib.hid T8
                    clear T6 T7 T8
                    go_wp2_with fail
                    exact dec_panics HE.out rfl rfl rfl rfl (by omega) (by omega) (by omega) (by omega) (by omega) (by omega) (HA2.out.later H7.out (by omega)) (HR2.out.later H8.out (by omega)) (HR3.out.later H8.out (by omega)) HT1.out H8.out (fun j h => by omega)
                  | ok y =>
                    have HE := Lib.hid (instsR_ok (g := g) (f := N) (s := S) (k := S - (j + 1)) (acc := l) hI)
                    have C := inst_val g N S _ HR.out HB2.out (fun b o e => by have := hap b o e; omega) hn wg wN wS hI
                    clear hI
                    go_wp2_with fail
                    refine C.mono ?_
                    clear C
                    rintro e w6 ⟨rfl, R6, T6⟩
                    have V6 := HV.out.later T6 (fun g h => by have := View.low HV.out g h; omega)
                    have T7 := HTI.out.then T6
                    have H7 := Lib.hid (T7.alloc (.cells #[.int .i64 y.op, .int .i64 y.a, .int .i64 y.b, .int .i64 y.c] 37))
                    have H6 := Lib.hid (R6.alloc (.cells #[.int .i64 y.op, .int .i64 y.a, .int .i64 y.b, .int .i64 y.c] 37))
                    have HV6 := Lib.hid (V6.later ((Turns.refl (fun _ => False) w6).alloc (.cells #[.int .i64 y.op, .int .i64 y.a, .int .i64 y.b, .int .i64 y.c] 37)) (fun _ _ x => x))
                    have X6 : Row (w6.alloc (.cells #[.int .i64 y.op, .int .i64 y.a, .int .i64 y.b, .int .i64 y.c] 37)) w6.heap.size 37 (ic y) := heap_new rfl
                    have HX6 := Lib.hid X6
                    have hl0 : l.length ≤ 100000 := by have := hsi.out.1; omega
                    have hB6 : wx.heap.size ≤ (w6.alloc (.cells #[.int .i64 y.op, .int .i64 y.a, .int .i64 y.b, .int .i64 y.c] 37)).heap.size := H7.out.size
                    have HB6 := Lib.hid hB6
                    clear T6 T7 R6 V6 X6 hB6
                    go_wp2_with (refine wpList_append_inst rfl (.tmp 31) (.tmp 35) rfl wx.heap.size _ l w6.heap.size 1 y rfl rfl HV6.out HX6.out hl0 HB6.out ?_; intro v8 w8 V8 G8 L8; have HV8 := Lib.hid V8; have HG8 := Lib.hid G8; clear V8 G8 L8)
                    go_roundw
                    case rel =>
                      have T8 := HG8.out.turns
                      have low := View.low HV6.out
                      refine ⟨j + 1, l ++ [y], by omega, by go_num, Lib.hid ⟨by rw [List.length_append, hsi.out.1]; rfl, ?_⟩, ?_, HV8.out, ?_⟩
                      · rw [← hsi.out.2, HSj.out, HE.out]; rfl
                      · have := H6.out.later T8 (fun h => by have := low _ h; omega)
                        have e : ((i + 1 + 4 * (j + 1) : Nat) : Int) = ((i + 1 + 4 * j : Nat) : Int) + 4 := by omega
                        rw [e]; exact this
                      · exact H7.out.trans T8 (fun j h _ => h) (fun j h h' => by have := low _ h; omega)
                    case measure => simp [intOf]; omega
                · obtain rfl : j = S := by omega
                  have P1 := HA2.out.later TI (by omega)
                  have hS : instsR zs g N j j (i + 1) [] = .ok (l, i + 1 + 4 * j) := by rw [← hsi.out.2, Nat.sub_self]; rfl
                  have HO := Lib.hid (HGo.out l _ hS)
                  obtain ⟨lo, lc, hlv⟩ := View.val V
                  subst hlv
                  have Lb : w.heap.size + 4 ≤ wx.heap.size := by have := HA5.out.size; have := HZ1.out; omega
                  have hne : ∀ g, (Value.slice lo l.length lc).ownBlock = some g → ov.ownBlock ≠ some g := fun g h h' => by
                    obtain ⟨us, _, h2, _⟩ := HA4.out
                    have a := View.low V g h
                    have b := View.lt h2 g h'
                    omega
                  have low : ∀ g, ov.ownBlock = some g → w.heap.size + 4 ≤ g := by
                    obtain ⟨us, _, h2, _⟩ := HA4.out
                    exact View.low h2
                  have hl0 : l.length ≤ 100000 := by have := hsi.out.1; omega
                  have hf0 : fs.length ≤ 100000 := by have := hsp.out.1; omega
                  have HX := Lib.hid (heap_new rfl : (wr.alloc (.cells #[.slice lo l.length lc] 38)).heap[wr.heap.size]? = some (.cells #[.slice lo l.length lc] 38))
                  have HV9 := Lib.hid ((V.later ((Turns.refl (fun _ => False) wr).alloc (.cells #[.slice lo l.length lc] 38)) (fun _ _ x => x)).base Lb)
                  have HF9 := Lib.hid ((HA4.out.later TI (fun g h _ => by omega)).later ((Turns.refl (fun _ => False) wr).alloc (.cells #[.slice lo l.length lc] 38)) (fun _ _ _ x => x))
                  have HP9 := Lib.hid (P1.alloc (.cells #[.slice lo l.length lc] 38))
                  have HR9 := Lib.hid (R.alloc (.cells #[.slice lo l.length lc] 38))
                  have HT9 := Lib.hid ((HA5.out.then (TI.mono (E := fun x => x = w.heap.size ∨ x = w.heap.size + 1 + 1 + 1) (fun _ x _ => Or.inr x))).alloc (.cells #[.slice lo l.length lc] 38))
                  have HB9 := Lib.hid (show w.heap.size + 4 ≤ (wr.alloc (.cells #[.slice lo l.length lc] 38)).heap.size by have := TI.size; simp; omega)
                  have hne9 := Lib.hid hne
                  have low9 := Lib.hid low
                  have p1 := P1.cell 1 _ rfl
                  clear R V TI P1 hne low hS
                  go_wp2_with (
                    refine wpList_append_func rfl (.tmp 39) (.tmp 41) rfl (w.heap.size + 4) ov fs wr.heap.size 1 _ l rfl rfl HF9.out HX.out rfl HV9.out hl0 hne9.out hf0 HB9.out ?_
                    intro v8 w8 V8 G8 L8
                    obtain ⟨ao8, n8, c8, e8⟩ : ∃ ao n c, v8 = .slice ao n c := by obtain ⟨us, _, h2, _⟩ := V8; obtain ⟨ao, c, e⟩ := View.val h2; exact ⟨ao, _, c, e⟩
                    subst e8
                    have T8 := G8.turns
                    have P8 := HP9.out.later T8 (fun h => by have := low9.out _ h; omega)
                    have R8 := HR9.out.later T8 (fun h => by have := low9.out _ h; omega)
                    have q1 := P8.cell 1 _ rfl
                    have f1 := P8.free 1
                    have l8 := P8.lt
                    have HP8 := Lib.hid (P8.set 1 (.slice ao8 n8 c8))
                    have HR8 := Lib.hid (R8.other 1 (.slice ao8 n8 c8) (b' := w.heap.size) (by omega))
                    have HV8 := Lib.hid (V8.later ((Turns.refl (fun x => x = w.heap.size) w8).setCell (p := ⟨w.heap.size, 1, none⟩) (Or.inl rfl) (.slice ao8 n8 c8)) (fun g h _ e => by omega))
                    have HT8 := Lib.hid ((HT9.out.trans (E := fun x => x = w.heap.size ∨ x = w.heap.size + 1 + 1 + 1) T8 (fun j h _ => h) (fun j h h' => by have := low9.out _ h; have := HZ1.out; omega)).setCell (p := ⟨w.heap.size, 1, none⟩) (Or.inl (Or.inl rfl)) (.slice ao8 n8 c8))
                    clear V8 G8 L8 T8 P8 R8)
                  go_roundw
                  case rel =>
                    refine ⟨k + 1, fs ++ [l], _, i + 1 + 4 * j, by omega, by go_num, Lib.hid ⟨by rw [List.length_append, hsp.out.1]; rfl, HO.out⟩, HP8.out, HR8.out, HV8.out, HT8.out⟩
                  case measure => simp [intOf]; omega
            · go_simp
              refine hK.out _ _ ?_ (fun hHeld => ?_)
              · exact (HP1.out.alloc _).drew.cell 0 _ rfl
              clear hK K
              try simp only [Act.put, List.getElem_toArray, List.getElem_cons_zero, List.getElem_cons_succ, List.setIfInBounds_toArray, List.set_cons_zero, List.set_cons_succ]
              refine wpAnyH_ready (rs := [4]) (by kernel_rfl) (by simp) ?_
              refine AllReadyH.cons rfl (fun K hK => ?_) AllReadyH.nil
              go_simp
              refine (next_val i (HP4.out.alloc _).drew (B2.later ((Turns.refl (fun _ => False) _).alloc _) (fun _ _ _ x => x)) hn 1 64 Hb.out).mono ?_
              rintro e w5 ⟨rfl, R5, T5⟩
              have L4 := HP4.out.lt
              have A0 : Row (wr.alloc (.cells #[.int .i64 0, .int .i64 0, .int .i64 0] 48)) wr.heap.size 48 [.int .i64 0, .int .i64 0, .int .i64 0] := heap_new rfl
              have X1 := (Row.drew A0).later T5 (by omega)
              have T6 := ((((Turns.refl (fun _ => False) wr).alloc (.cells #[.int .i64 0, .int .i64 0, .int .i64 0] 48)).drew.mono (E := fun x => x = w.heap.size + 1 + 1 + 1) (fun _ x _ => x.elim)).then T5)
              have TT := ((T6.setCell (p := ⟨wr.heap.size, 0, none⟩) (Or.inr (Nat.le_refl _)) (.int .i64 g)).setCell (p := ⟨wr.heap.size, 1, none⟩) (Or.inr (Nat.le_refl _)) (.int .i64 N)).setCell (p := ⟨wr.heap.size, 2, none⟩) (Or.inr (Nat.le_refl _)) (.int .i64 s)
              have A2 := HP1.out.later TT (by omega)
              have A4 := HF.out.later TT (fun g h _ => by omega)
              have A5 := HT.out.then (TT.mono (E := fun x => x = w.heap.size ∨ x = w.heap.size + 1 + 1 + 1) (fun _ x _ => Or.inr x))
              have A1 := ((X1.set 0 (.int .i64 g)).set 1 (.int .i64 N)).set 2 (.int .i64 s)
              have A3 := ((R5.other (b' := wr.heap.size) 0 (.int .i64 g) (by omega)).other (b' := wr.heap.size) 1 (.int .i64 N) (by omega)).other (b' := wr.heap.size) 2 (.int .i64 s) (by omega)
              have hH2 := (HP1.out.later T6 (by omega)).cell 0 _ rfl
              clear hHeld
              refine hK.out _ _ hH2 (fun hHeld => ?_)
              clear hK K A0 T6 TT hH2 T5 R5
              try simp only [Act.put, List.getElem_toArray, List.getElem_cons_zero, List.getElem_cons_succ, List.setIfInBounds_toArray, List.set_cons_zero, List.set_cons_succ]
              refine wpAnyH_take (i := 5) (v := ?_) rfl (by kernel_rfl) (by kernel_rfl) (by kernel_rfl) (fun c a w h => dec_put (by decide) (by decide) (by decide) c a w h) (Or.inl ⟨by rfl, ?_⟩) (by assumption) ?_
              rotate_left
              · (intro w' hSw; (try dsimp only at hSw); first | (go_simp; done) | (go_simp; with_reducible rfl))
              try simp only [Act.put, List.getElem_toArray, List.getElem_cons_zero, List.getElem_cons_succ, List.setIfInBounds_toArray, List.set_cons_zero, List.set_cons_succ]
              clear hHeld
              refine wpAnyH_ready (rs := [7]) (by kernel_rfl) (by simp) ?_
              refine AllReadyH.cons rfl (fun K hK => ?_) AllReadyH.nil
              have x0 := X1.cell 0 _ rfl
              have f0 := X1.free 0
              have x1 := X1.cell 1 _ rfl
              have f1 := X1.free 1
              have x2 := X1.cell 2 _ rfl
              have f2 := X1.free 2
              go_simp
              refine hK.out _ _ (A2.cell 0 _ rfl) (fun hHeld => ?_)
              clear hK K hHeld x0 x1 x2 f0 f1 f2 L4
              try simp only [Act.put, List.getElem_toArray, List.getElem_cons_zero, List.getElem_cons_succ, List.setIfInBounds_toArray, List.set_cons_zero, List.set_cons_succ]
              refine wpAnyH_done (by kernel_rfl) ?_ _
              clear X1
              generalize ((w5.setCell ⟨wr.heap.size, 0, none⟩ (.int .i64 g)).setCell ⟨wr.heap.size, 1, none⟩ (.int .i64 N)).setCell ⟨wr.heap.size, 2, none⟩ (.int .i64 s) = wx at A1 A2 A3 A4 A5 ⊢
              generalize wr.heap.size = x at A1 ⊢
              clear B2 HP1 HP4 HF HT c0
              (try clear hHeld); (try clear hHeld); (try clear hHeld)
              clear wr
              obtain ⟨slt, sv, s1, s64⟩ := byteR_ok Hb.out
              obtain ⟨S, rfl⟩ : ∃ S : Nat, s = (S : Int) := ⟨s.toNat, by omega⟩
              clear sv
              replace A1 : Row wx x 48 [.int .i64 g, .int .i64 N, .int .i64 S] := A1
              have hxr : x ≠ w.heap.size + 1 + 1 + 1 := by
                rintro rfl
                have h := A1.symm.trans A3
                simp at h
              have wS : (Lit.int .i64 (S : Int)).wf = true := WalkArith.wf_i64 (by omega)
              have HGe : Hid (∀ e, instsR zs g N S S (i + 1) [] = .error e → decR zs = .error e) :=
                Lib.hid fun e he => decR_err Hb0.out Hb1.out (by rw [← hsp.out.2, HN.out]; exact funcsR_err Hb.out he)
              have HGo : Hid (∀ l j, instsR zs g N S S (i + 1) [] = .ok (l, j) → funcsR zs g N (N - (k + 1)) j (fs ++ [l]) = funcsR zs g N N 2 []) :=
                Lib.hid fun l j he => by rw [← hsp.out.2, HN.out]; exact (funcsR_ok Hb.out he).symm
              have x2 := A1.cell 2 _ rfl
              have HA1 := Lib.hid A1
              have HA2 := Lib.hid A2
              have HA3 := Lib.hid A3
              have HA4 := Lib.hid A4
              have HA5 := Lib.hid A5
              have Lx := A1.lt
              have Lr := A3.lt
              have Lp := A2.lt
              clear A1 A2 A3 A4 A5 Hb
              go_wp2_with fail
              go_loopw [8, 29] (fun lv jv wr => ∃ (j : Nat) (l : List In), j ≤ S ∧ jv = .int .i64 (j : Int) ∧ Hid (l.length = j ∧ instsR zs g N S (S - j) (i + 1 + 4 * j) l = instsR zs g N S S (i + 1) []) ∧
                  Row wr (w.heap.size + 1 + 1 + 1) 55 [.slice a n cap, .int .i64 ((i + 1 + 4 * j : Nat) : Int)] ∧ IV wr wx.heap.size lv l ∧ Turns (fun y => y = w.heap.size + 1 + 1 + 1) wx wr)
                (fun _ jv _ => S - (intOf jv).toNat)
              case atStart => exact ⟨0, [], by omega, rfl, Lib.hid ⟨rfl, rfl⟩, HA3.out, View.zero _ _ _ _, Turns.refl _ _⟩
              case round =>
                obtain ⟨j, l, hj, rfl, hsi, R, V, TI⟩ := hrel
                by_cases hjS : j < S
                · have B2 := (B.later HT1.out (fun _ _ _ x => x)).later (HA5.out.then (TI.mono fun _ x _ => Or.inr x)) (fun b o e => by have := hap b o e; omega)
                  have A1 := HA1.out.later TI hxr
                  have x0 := A1.cell 0 _ rfl
                  have x1 := A1.cell 1 _ rfl
                  have x2 := A1.cell 2 _ rfl
                  have HR := Lib.hid R
                  have HV := Lib.hid V
                  have HTI := Lib.hid TI
                  have HB2 := Lib.hid B2
                  have HSj := Lib.hid (show S - j = (S - (j + 1)) + 1 by omega)
                  clear R V TI A1 B2
                  cases hI : instR zs (i + 1 + 4 * j) (wrongI g N S) 4 in0 with
                  | error y =>
                    have HE := Lib.hid (HGe.out y (by rw [← hsi.out.2, HSj.out]; exact instsR_err hI))
                    have C := inst_err g N S _ HR.out HB2.out (fun b o e => by have := hap b o e; omega) hn wg wN wS hI
                    clear hI
                    go_wp2_with fail
                    refine C.mono ?_
                    clear C
                    rintro e w6 ⟨rfl, T6⟩
                    have T7 := HTI.out.then T6
                    have T8 := HA5.out.then (T7.mono (E := fun x => x = w.heap.size ∨ x = w.heap.size + 1 + 1 + 1) (fun _ x _ => Or.inr x))
                    have H7 := Lib.hid T7
                    have H8 := Lib.hid T8
                    clear T6 T7 T8
                    go_wp2_with fail
                    exact dec_panics HE.out rfl rfl rfl rfl (by omega) (by omega) (by omega) (by omega) (by omega) (by omega) (HA2.out.later H7.out (by omega)) (HR2.out.later H8.out (by omega)) (HR3.out.later H8.out (by omega)) HT1.out H8.out (fun j h => by omega)
                  | ok y =>
                    have HE := Lib.hid (instsR_ok (g := g) (f := N) (s := S) (k := S - (j + 1)) (acc := l) hI)
                    have C := inst_val g N S _ HR.out HB2.out (fun b o e => by have := hap b o e; omega) hn wg wN wS hI
                    clear hI
                    go_wp2_with fail
                    refine C.mono ?_
                    clear C
                    rintro e w6 ⟨rfl, R6, T6⟩
                    have V6 := HV.out.later T6 (fun g h => by have := View.low HV.out g h; omega)
                    have T7 := HTI.out.then T6
                    have H7 := Lib.hid (T7.alloc (.cells #[.int .i64 y.op, .int .i64 y.a, .int .i64 y.b, .int .i64 y.c] 37))
                    have H6 := Lib.hid (R6.alloc (.cells #[.int .i64 y.op, .int .i64 y.a, .int .i64 y.b, .int .i64 y.c] 37))
                    have HV6 := Lib.hid (V6.later ((Turns.refl (fun _ => False) w6).alloc (.cells #[.int .i64 y.op, .int .i64 y.a, .int .i64 y.b, .int .i64 y.c] 37)) (fun _ _ x => x))
                    have X6 : Row (w6.alloc (.cells #[.int .i64 y.op, .int .i64 y.a, .int .i64 y.b, .int .i64 y.c] 37)) w6.heap.size 37 (ic y) := heap_new rfl
                    have HX6 := Lib.hid X6
                    have hl0 : l.length ≤ 100000 := by have := hsi.out.1; omega
                    have hB6 : wx.heap.size ≤ (w6.alloc (.cells #[.int .i64 y.op, .int .i64 y.a, .int .i64 y.b, .int .i64 y.c] 37)).heap.size := H7.out.size
                    have HB6 := Lib.hid hB6
                    clear T6 T7 R6 V6 X6 hB6
                    go_wp2_with (refine wpList_append_inst rfl (.tmp 31) (.tmp 35) rfl wx.heap.size _ l w6.heap.size 1 y rfl rfl HV6.out HX6.out hl0 HB6.out ?_; intro v8 w8 V8 G8 L8; have HV8 := Lib.hid V8; have HG8 := Lib.hid G8; clear V8 G8 L8)
                    go_roundw
                    case rel =>
                      have T8 := HG8.out.turns
                      have low := View.low HV6.out
                      refine ⟨j + 1, l ++ [y], by omega, by go_num, Lib.hid ⟨by rw [List.length_append, hsi.out.1]; rfl, ?_⟩, ?_, HV8.out, ?_⟩
                      · rw [← hsi.out.2, HSj.out, HE.out]; rfl
                      · have := H6.out.later T8 (fun h => by have := low _ h; omega)
                        have e : ((i + 1 + 4 * (j + 1) : Nat) : Int) = ((i + 1 + 4 * j : Nat) : Int) + 4 := by omega
                        rw [e]; exact this
                      · exact H7.out.trans T8 (fun j h _ => h) (fun j h h' => by have := low _ h; omega)
                    case measure => simp [intOf]; omega
                · obtain rfl : j = S := by omega
                  have P1 := HA2.out.later TI (by omega)
                  have hS : instsR zs g N j j (i + 1) [] = .ok (l, i + 1 + 4 * j) := by rw [← hsi.out.2, Nat.sub_self]; rfl
                  have HO := Lib.hid (HGo.out l _ hS)
                  obtain ⟨lo, lc, hlv⟩ := View.val V
                  subst hlv
                  have Lb : w.heap.size + 4 ≤ wx.heap.size := by have := HA5.out.size; have := HZ1.out; omega
                  have hne : ∀ g, (Value.slice lo l.length lc).ownBlock = some g → ov.ownBlock ≠ some g := fun g h h' => by
                    obtain ⟨us, _, h2, _⟩ := HA4.out
                    have a := View.low V g h
                    have b := View.lt h2 g h'
                    omega
                  have low : ∀ g, ov.ownBlock = some g → w.heap.size + 4 ≤ g := by
                    obtain ⟨us, _, h2, _⟩ := HA4.out
                    exact View.low h2
                  have hl0 : l.length ≤ 100000 := by have := hsi.out.1; omega
                  have hf0 : fs.length ≤ 100000 := by have := hsp.out.1; omega
                  have HX := Lib.hid (heap_new rfl : (wr.alloc (.cells #[.slice lo l.length lc] 38)).heap[wr.heap.size]? = some (.cells #[.slice lo l.length lc] 38))
                  have HV9 := Lib.hid ((V.later ((Turns.refl (fun _ => False) wr).alloc (.cells #[.slice lo l.length lc] 38)) (fun _ _ x => x)).base Lb)
                  have HF9 := Lib.hid ((HA4.out.later TI (fun g h _ => by omega)).later ((Turns.refl (fun _ => False) wr).alloc (.cells #[.slice lo l.length lc] 38)) (fun _ _ _ x => x))
                  have HP9 := Lib.hid (P1.alloc (.cells #[.slice lo l.length lc] 38))
                  have HR9 := Lib.hid (R.alloc (.cells #[.slice lo l.length lc] 38))
                  have HT9 := Lib.hid ((HA5.out.then (TI.mono (E := fun x => x = w.heap.size ∨ x = w.heap.size + 1 + 1 + 1) (fun _ x _ => Or.inr x))).alloc (.cells #[.slice lo l.length lc] 38))
                  have HB9 := Lib.hid (show w.heap.size + 4 ≤ (wr.alloc (.cells #[.slice lo l.length lc] 38)).heap.size by have := TI.size; simp; omega)
                  have hne9 := Lib.hid hne
                  have low9 := Lib.hid low
                  have p1 := P1.cell 1 _ rfl
                  clear R V TI P1 hne low hS
                  go_wp2_with (
                    refine wpList_append_func rfl (.tmp 39) (.tmp 41) rfl (w.heap.size + 4) ov fs wr.heap.size 1 _ l rfl rfl HF9.out HX.out rfl HV9.out hl0 hne9.out hf0 HB9.out ?_
                    intro v8 w8 V8 G8 L8
                    obtain ⟨ao8, n8, c8, e8⟩ : ∃ ao n c, v8 = .slice ao n c := by obtain ⟨us, _, h2, _⟩ := V8; obtain ⟨ao, c, e⟩ := View.val h2; exact ⟨ao, _, c, e⟩
                    subst e8
                    have T8 := G8.turns
                    have P8 := HP9.out.later T8 (fun h => by have := low9.out _ h; omega)
                    have R8 := HR9.out.later T8 (fun h => by have := low9.out _ h; omega)
                    have q1 := P8.cell 1 _ rfl
                    have f1 := P8.free 1
                    have l8 := P8.lt
                    have HP8 := Lib.hid (P8.set 1 (.slice ao8 n8 c8))
                    have HR8 := Lib.hid (R8.other 1 (.slice ao8 n8 c8) (b' := w.heap.size) (by omega))
                    have HV8 := Lib.hid (V8.later ((Turns.refl (fun x => x = w.heap.size) w8).setCell (p := ⟨w.heap.size, 1, none⟩) (Or.inl rfl) (.slice ao8 n8 c8)) (fun g h _ e => by omega))
                    have HT8 := Lib.hid ((HT9.out.trans (E := fun x => x = w.heap.size ∨ x = w.heap.size + 1 + 1 + 1) T8 (fun j h _ => h) (fun j h h' => by have := low9.out _ h; have := HZ1.out; omega)).setCell (p := ⟨w.heap.size, 1, none⟩) (Or.inl (Or.inl rfl)) (.slice ao8 n8 c8))
                    clear V8 G8 L8 T8 P8 R8)
                  go_roundw
                  case rel =>
                    refine ⟨k + 1, fs ++ [l], _, i + 1 + 4 * j, by omega, by go_num, Lib.hid ⟨by rw [List.length_append, hsp.out.1]; rfl, HO.out⟩, HP8.out, HR8.out, HV8.out, HT8.out⟩
                  case measure => simp [intOf]; omega
        · obtain rfl : k = N := by omega
          have hS : funcsR zs g k k 2 [] = .ok (fs, i) := by rw [← hsp.out.2, Nat.sub_self]; rfl
          obtain ⟨ao8, n8, c8, e8⟩ : ∃ ao n c, ov = .slice ao n c := by obtain ⟨us, _, h2, _⟩ := F; obtain ⟨ao, c, e⟩ := View.val h2; exact ⟨ao, _, c, e⟩
          subst e8
          have Q2 := HR2.out.later T (by omega)
          have Q3 := HR3.out.later T (by omega)
          have c1 := P4.cell 1 _ rfl
          have HP1 := Lib.hid P1
          have HF := Lib.hid F
          have HT := Lib.hid T
          have HQ2 := Lib.hid Q2
          have HQ3 := Lib.hid Q3
          have HSS := Lib.hid hS
          clear P1 P4 F T Q2 Q3 hS
          by_cases hmore : i < n
          · have HE := Lib.hid (decR_more Hb0.out Hb1.out HSS.out (by rw [B.len]; exact hmore))
            have hd : decide (i < n) = true := by simpa using hmore
            clear hmore
            go_wp2_with fail
            exact dec_panics HE.out rfl rfl rfl rfl (by omega) (by omega) (by omega) (by omega) (by omega) (by omega) HP1.out HQ2.out HQ3.out HT1.out HT.out (fun j h => by omega)
          · have HE := Lib.hid (decR_ok Hb0.out Hb1.out HSS.out (by rw [B.len]; exact hmore))
            have hd : decide (i < n) = false := by simpa using hmore
            have p0 := HP1.out.cell 0 _ rfl
            have p1 := HP1.out.cell 1 _ rfl
            have fp0 := HP1.out.free 0
            have fp1 := HP1.out.free 1
            have q0 := HQ2.out.cell 0 _ rfl
            have fq := HQ2.out.free 0
            have r0 := HQ3.out.cell 0 _ rfl
            have fr := HQ3.out.free 0
            have lp := HP1.out.lt
            have lq := HQ2.out.lt
            have lr := HQ3.out.lt
            have hf0 : fs.length ≤ 100000 := by have := hsp.out.1; omega
            clear hmore
            go_wp2_with fail
            have TD : Turns (fun x => x = w.heap.size ∨ x = w.heap.size + 1 ∨ x = w.heap.size + 1 + 1) wr ((((wr.setCell ⟨w.heap.size, 0, none⟩ (.int .i64 g)).setCell ⟨w.heap.size, 1, none⟩ (.slice ao8 n8 c8)).setCell ⟨w.heap.size + 1, 0, none⟩ (.int .i64 0)).setCell ⟨w.heap.size + 1 + 1, 0, none⟩ (.int .i64 0)) :=
              ((((Turns.refl _ wr).setCell (Or.inl (Or.inl rfl)) _).setCell (Or.inl (Or.inl rfl)) _).setCell (Or.inl (Or.inr (Or.inl rfl))) _).setCell (Or.inl (Or.inr (Or.inr rfl))) _
            refine dec_returns HE.out rfl rfl rfl rfl (g := g) (v := .slice ao8 n8 c8) ?_ ?_ ?_ ((HF.out.later TD (fun g h _ => by omega)).reads (by unfold maxLen; omega)) HT1.out (HT.out.trans (E := fun j => w.heap.size ≤ j) TD (fun j h _ => by omega) (fun j h _ => by omega)) (fun j h => h)
            · exact (((HP1.out.set 0 (.int .i64 g)).set 1 (.slice ao8 n8 c8)).other 0 _ (by omega)).other 0 _ (by omega)
            · exact (((HQ2.out.other 0 _ (by omega)).other 1 _ (by omega)).set 0 (.int .i64 0)).other 0 _ (by omega)
            · exact (((HQ3.out.other 0 _ (by omega)).other 1 _ (by omega)).other 0 _ (by omega)).set 0 (.int .i64 0)
end Go.Proofs.Ytedgeoigapilnaa
