/- code: the reader's inst by contract. -/
import Derived.Test.YtedgeoigapilnaaRead
namespace Go.Proofs.Ytedgeoigapilnaa
open Go.RowKit

def setI (x : In) (k : Nat) (v : Int) : In := match k with | 0 => { x with op := v } | 1 => { x with a := v } | 2 => { x with b := v } | _ => { x with c := v }
def in0 : In := ⟨0, 0, 0, 0⟩
theorem ic_set (x : In) (k : Nat) (v : Int) (h : k < 4) : (ic x).set k (.int .i64 v) = ic (setI x k v) := by
  match k, h with
  | 0, _ => rfl
  | 1, _ => rfl
  | 2, _ => rfl
  | 3, _ => rfl
  | k + 4, h => omega

/-- One byte of an instruction: the k-th, at place i + k. -/
def byteI (zs : List Int) (i : Nat) (W : In → Int) (k : Nat) (x : In) : Except Nat In :=
  if zs.length ≤ i + k then .error zs.length else
  if 0 ≤ W (setI x k (zs.getD (i + k) 0)) ∧ W (setI x k (zs.getD (i + k) 0)) ≤ k then .error (i + (W (setI x k (zs.getD (i + k) 0))).toNat) else .ok (setI x k (zs.getD (i + k) 0))
/-- The last m bytes of an instruction. -/
def instR (zs : List Int) (i : Nat) (W : In → Int) : Nat → In → Except Nat In
  | 0, x => .ok x
  | m + 1, x => match byteI zs i W (3 - m) x with | .error e => .error e | .ok y => instR zs i W m y

theorem instR_step (zs : List Int) (i : Nat) (W : In → Int) (k : Nat) (x : In) (h : k < 4) : instR zs i W (4 - k) x = match byteI zs i W k x with | .error e => .error e | .ok y => instR zs i W (4 - (k + 1)) y := by
  rw [show 4 - k = (3 - k) + 1 from by omega, instR, show 3 - (3 - k) = k from by omega, show 4 - (k + 1) = 3 - k from by omega]

/-- What inst does at (i, x0): the reader at rb, the bytes at a. -/
def InstPost (w : World) (rb : Nat) (a : Option Addr) (n cap i : Nat) (r : Except Nat In) (e : Ending) (w' : World) : Prop :=
  match r with
  | .error p => e = .panicked (thrown (p : Int)) ∧ Turns (fun x => x = rb) w w'
  | .ok x => e = .returned (.agg #[.int .i64 x.op, .int .i64 x.a, .int .i64 x.b, .int .i64 x.c]) ∧ Row w' rb 55 [.slice a n cap, .int .i64 ((i : Int) + 4)] ∧ Turns (fun x => x = rb) w w'

set_option maxHeartbeats 2000000 in
set_option maxRecDepth 100000 in
theorem inst_any {w : World} {rb n cap : Nat} {a : Option Addr} {zs : List Int} (g f s : Int) (i : Nat) (R : Row w rb 55 [.slice a n cap, .int .i64 i]) (B : IsBytes w a n zs) (hap : ∀ b o, a = some ⟨b, o, none⟩ → b ≠ rb) (hn : n ≤ 1000000)
    (wg : (Lit.int .i64 g).wf = true) (wf : (Lit.int .i64 f).wf = true) (ws : (Lit.int .i64 s).wf = true) :
    Calls Try.prog 21 #[.pointer (some ⟨rb, 0, none⟩), .agg #[.int .i64 g, .int .i64 f, .int .i64 s]] w (InstPost w rb a n cap i (instR zs i (wrongI g f s) 4 in0)) := by
  have hrb := R.lt
  obtain ⟨w1, hw1⟩ : ∃ w1, ((w.alloc (.cells #[.int .i64 g, .int .i64 f, .int .i64 s] 48)).alloc (.cells #[.int .i64 0, .int .i64 0, .int .i64 0, .int .i64 0] 37)).alloc (.cells #[.int .i64 0, .int .i64 0, .int .i64 0, .int .i64 0] 64) = w1 := ⟨_, rfl⟩
  have T1 : Turns (fun _ => False) w w1 := by subst hw1; exact (((Turns.refl _ _).alloc _).alloc _).alloc _
  have RF : Row w1 w.heap.size 48 [.int .i64 g, .int .i64 f, .int .i64 s] := by subst hw1; exact Row.alloc (Row.alloc (heap_new rfl) _) _
  have RR : Row w1 (w.heap.size + 1) 37 (ic in0) := by
    subst hw1
    have := @heap_new (w.alloc (.cells #[.int .i64 g, .int .i64 f, .int .i64 s] 48)) (.cells #[.int .i64 0, .int .i64 0, .int .i64 0, .int .i64 0] 37) _ rfl
    rw [show (w.alloc (.cells #[.int .i64 g, .int .i64 f, .int .i64 s] 48)).heap.size = w.heap.size + 1 from by simp] at this
    exact Row.alloc this _
  have RV : Row w1 (w.heap.size + 1 + 1) 64 (ic in0) := by
    subst hw1
    have := @heap_new ((w.alloc (.cells #[.int .i64 g, .int .i64 f, .int .i64 s] 48)).alloc (.cells #[.int .i64 0, .int .i64 0, .int .i64 0, .int .i64 0] 37)) (.cells #[.int .i64 0, .int .i64 0, .int .i64 0, .int .i64 0] 64) _ rfl
    rw [show ((w.alloc (.cells #[.int .i64 g, .int .i64 f, .int .i64 s] 48)).alloc (.cells #[.int .i64 0, .int .i64 0, .int .i64 0, .int .i64 0] 37)).heap.size = w.heap.size + 1 + 1 from by simp] at this
    exact this
  have c1 := R.cell 1 _ rfl
  have H1 := Lib.hid hw1
  have HT1 := Lib.hid T1
  have HRF := Lib.hid RF
  have HRR := Lib.hid RR
  have HRV := Lib.hid RV
  clear hw1 T1 RF RR RV
  go_enter Try.func21, Try.ntmps21
  go_wp2_with fail
  rw [H1.out]
  clear H1 c1
  go_loopw [14] (fun kv wr => ∃ (k : Nat) (x : In), k ≤ 4 ∧ kv = .int .i64 (k : Int) ∧ Hid (instR zs i (wrongI g f s) (4 - k) x = instR zs i (wrongI g f s) 4 in0) ∧
      Row wr w.heap.size 48 [.int .i64 g, .int .i64 f, .int .i64 s] ∧ Row wr (w.heap.size + 1) 37 (ic in0) ∧ Row wr (w.heap.size + 1 + 1) 64 (ic x) ∧ Row wr rb 55 [.slice a n cap, .int .i64 ((i : Int) + k)] ∧ Turns (fun x => x = rb) w wr)
    (fun kv _ => 4 - (intOf kv).toNat)
  case atStart => exact ⟨0, in0, by omega, rfl, Lib.hid rfl, HRF.out, HRR.out, HRV.out, by simpa using R.later HT1.out (fun x => x), HT1.out.mono fun _ x _ => x.elim⟩
  case round =>
    clear HRF HRR HRV HT1
    obtain ⟨k, x, hk, rfl, hspec, RF, RR, RV, R1, T⟩ := hrel
    have B1 := B.later T (fun b o e => hap b o e)
    by_cases h4 : k < 4
    · have d0 := R1.cell 0 _ rfl
      have d1 := R1.cell 1 _ rfl
      by_cases hout : n ≤ i + k
      · have hres : instR zs i (wrongI g f s) 4 in0 = .error n := by
          rw [← hspec.out, instR_step _ _ _ _ _ h4]
          simp [byteI, B.len, hout]
        have HR := Lib.hid hres
        clear hres hspec
        go_wp2_with fail
        go_quiet (fail)
        have HT := Lib.hid (T.then (Turns.mono (drewN_turns wr nq) (fun _ x _ => x.elim)))
        clear T
        go_wp2_with fail
        refine ⟨rfl, ?_⟩
        rw [HR.out]
        exact ⟨rfl, HT.out⟩
      · have f0 : decide (n ≤ i + k) = false := by simp; omega
        obtain ⟨r1, r2⟩ := B1.bound (i + k) (by omega)
        obtain ⟨bb, bo, rfl, hbb, hbc⟩ := B1.at_ (i + k) (by omega)
        have hne := hap bb bo rfl
        have HI := Lib.hid (ic_set x k (zs.getD (i + k) 0) h4)
        have hstep := instR_step zs i (wrongI g f s) k x h4
        have hby : byteI zs i (wrongI g f s) k x = if 0 ≤ wrongI g f s (setI x k (zs.getD (i + k) 0)) ∧ wrongI g f s (setI x k (zs.getD (i + k) 0)) ≤ k then .error (i + (wrongI g f s (setI x k (zs.getD (i + k) 0))).toNat) else .ok (setI x k (zs.getD (i + k) 0)) := by
          unfold byteI; rw [if_neg (by rw [B.len]; omega)]
        rw [hspec.out, hby] at hstep
        have HS := Lib.hid hstep
        clear hstep hby hspec
        generalize zs.getD (i + k) 0 = v at hbc r1 r2 HI HS
        generalize setI x k v = x' at HI HS
        go_wp2_with fail
        go_quiet (fail)
        have Tq := drewN_turns wr nq
        have RF := RF.later Tq (fun x => x)
        have RR := RR.later Tq (fun x => x)
        have RV := RV.later Tq (fun x => x)
        have R1 := R1.later Tq (fun x => x)
        have T := T.then (Tq.mono (fun _ x _ => x.elim))
        have hbc := Tq.cell hbc (fun x => x)
        clear Tq d0 d1 f0 B1
        generalize wr.drewN nq = wq at *
        have d0 := R1.cell 0 _ rfl
        have d1 := R1.cell 1 _ rfl
        have v0 := RV.cell k ((ic x).getD k (.int .i64 0)) (by have : (ic x).length = 4 := rfl; rw [List.getD_eq_getElem?_getD, List.getElem?_eq_getElem (by omega)]; rfl)
        have vf := RV.free k
        have hb1 : (0 : Int) ≤ (i : Int) + (k : Int) := by omega
        have hb2 : (i : Int) + (k : Int) < (n : Int) := by omega
        have hb3 : ((i : Int) + (k : Int)).toNat = i + k := by omega
        go_wp2_with fail
        go_still_tail 13, (by kernel_rfl)
        refine wpList_plain rfl fun K hK => ?_
        go_simp
        have hwv : IntKind.i64.wrap v = v := IntWalk.i64_in (by omega) (by omega)
        rw [hwv]
        have RV5 := (RV.set k (.int .i64 v)).drew
        rw [HI.out] at RV5
        have RF5 := (RF.other k (.int .i64 v) (b' := w.heap.size + 1 + 1) (by omega)).drew
        have RR5 := (RR.other k (.int .i64 v) (b' := w.heap.size + 1 + 1) (by omega)).drew
        have R5 := (R1.other k (.int .i64 v) (b' := w.heap.size + 1 + 1) (by omega)).drew
        have T5 := (T.setCell (p := ⟨w.heap.size + 1 + 1, k, none⟩) (Or.inr (by show w.heap.size ≤ w.heap.size + 1 + 1; omega)) (.int .i64 v)).drew
        refine hK _ _ (wpList_nil ?_)
        clear hK K hwv HI RF RR RV R1 T d0 d1 v0 vf hbc r1 r2 hb1 hb2 hb3
        generalize (wq.setCell ⟨w.heap.size + 1 + 1, k, none⟩ (.int .i64 v)).drew = w5 at *
        have e1 := R5.cell 1 _ rfl
        have e1f := R5.free 1
        have f0 := RF5.cell 0 _ rfl
        have f1 := RF5.cell 1 _ rfl
        have f2 := RF5.cell 2 _ rfl
        have v0 := RV5.cell 0 _ rfl
        have v1 := RV5.cell 1 _ rfl
        have v2 := RV5.cell 2 _ rfl
        have v3 := RV5.cell 3 _ rfl
        have lt5 := RV5.lt
        have n1 : w.heap.size < w5.heap.size := by omega
        have n2 : w.heap.size + 1 < w5.heap.size := by omega
        have n3 : ¬ w.heap.size = rb := by omega
        have n4 : ¬ rb = w.heap.size := by omega
        obtain ⟨w6, hw6⟩ : ∃ w6, (w5.setCell ⟨rb, 1, none⟩ (.int .i64 ((i : Int) + k + 1))).alloc (.cells #[.int .i64 x'.op, .int .i64 x'.a, .int .i64 x'.b, .int .i64 x'.c] 37) = w6 := ⟨_, rfl⟩
        have R6 : Row w6 rb 55 [.slice (some ⟨bb, bo, none⟩) n cap, .int .i64 ((i : Int) + k + 1)] := by subst hw6; exact (R5.set 1 _).alloc _
        have RF6 : Row w6 w.heap.size 48 [.int .i64 g, .int .i64 f, .int .i64 s] := by subst hw6; exact (RF5.other 1 _ (by omega)).alloc _
        have RR6 : Row w6 (w.heap.size + 1) 37 (ic in0) := by subst hw6; exact (RR5.other 1 _ (by omega)).alloc _
        have RV6 : Row w6 (w.heap.size + 1 + 1) 64 (ic x') := by subst hw6; exact (RV5.other 1 _ (by omega)).alloc _
        have T6 : Turns (fun x => x = rb) w w6 := by subst hw6; exact (T5.setCell (p := ⟨rb, 1, none⟩) (Or.inl rfl) _).alloc _
        have RB6 : Row w6 w5.heap.size 37 (ic x') := by
          subst hw6
          have := @heap_new (w5.setCell ⟨rb, 1, none⟩ (.int .i64 ((i : Int) + k + 1))) (.cells #[.int .i64 x'.op, .int .i64 x'.a, .int .i64 x'.b, .int .i64 x'.c] 37) _ rfl
          rw [show (w5.setCell ⟨rb, 1, none⟩ (.int .i64 ((i : Int) + k + 1))).heap.size = w5.heap.size from by simp] at this
          exact this
        have HW6 := Lib.hid hw6
        have C := wrong_all g f s x' w6 wg wf ws
        clear hw6 R5 RF5 RR5 RV5 T5
        go_wp2_with fail
        rw [HW6.out]
        clear HW6
        refine C.mono ?_
        clear C
        rintro e w7 ⟨rfl, T7⟩
        have HR7 := Lib.hid (R6.later T7 (fun x => x))
        have HF7 := Lib.hid (RF6.later T7 (fun x => x))
        have HRR7 := Lib.hid (RR6.later T7 (fun x => x))
        have HV7 := Lib.hid (RV6.later T7 (fun x => x))
        have HT7 := Lib.hid (T6.then (T7.mono (fun _ x _ => x.elim)))
        clear R6 RF6 RR6 RV6 RB6 T6 T7 n1 n2 n3 n4 e1 e1f lt5 f0 f1 f2 v0 v1 v2 v3
        generalize wrongI g f s x' = wi at HS
        by_cases hw0 : 0 ≤ wi
        · by_cases hwk : wi ≤ (k : Int)
          · have hE : instR zs i (wrongI g f s) 4 in0 = .error (i + wi.toNat) := by
              have := HS.out
              rw [if_pos ⟨hw0, hwk⟩] at this
              exact this
            have HE := Lib.hid hE
            clear hE HS
            go_wp2_with fail
            refine ⟨rfl, ?_⟩
            rw [HE.out]
            refine ⟨?_, HT7.out⟩
            have e : ((i + wi.toNat : Nat) : Int) = (i : Int) + wi := by omega
            rw [e]
            rfl
          · have hE : instR zs i (wrongI g f s) (4 - (k + 1)) x' = instR zs i (wrongI g f s) 4 in0 := by
              have := HS.out
              rw [if_neg (by omega)] at this
              exact this.symm
            have HE := Lib.hid hE
            clear hE HS
            go_wp2_with fail
            go_roundw
            case rel => exact ⟨k + 1, x', by omega, by go_num, HE, HF7.out, HRR7.out, HV7.out, by have := HR7.out; rw [Int.add_assoc] at this; simpa using this, HT7.out⟩
            case measure => simp [intOf]; omega
        · have hE : instR zs i (wrongI g f s) (4 - (k + 1)) x' = instR zs i (wrongI g f s) 4 in0 := by
            have := HS.out
            rw [if_neg (by omega)] at this
            exact this.symm
          have HE := Lib.hid hE
          clear hE HS
          go_wp2_with fail
          go_roundw
          case rel => exact ⟨k + 1, x', by omega, by go_num, HE, HF7.out, HRR7.out, HV7.out, by have := HR7.out; rw [Int.add_assoc] at this; simpa using this, HT7.out⟩
          case measure => simp [intOf]; omega
    · have hke : k = 4 := by omega
      subst hke
      have v0 := RV.cell 0 _ rfl
      have v1 := RV.cell 1 _ rfl
      have v2 := RV.cell 2 _ rfl
      have v3 := RV.cell 3 _ rfl
      have r0 := RR.cell 0 _ rfl
      have r1 := RR.cell 1 _ rfl
      have r2 := RR.cell 2 _ rfl
      have r3 := RR.cell 3 _ rfl
      have rf0 := RR.free 0
      have rf1 := RR.free 1
      have rf2 := RR.free 2
      have rf3 := RR.free 3
      have hS : instR zs i (wrongI g f s) 4 in0 = .ok x := hspec.out.symm
      have HS := Lib.hid hS
      clear hS hspec
      go_wp2_with fail
      have RZ : Row ((((wr.setCell ⟨w.heap.size + 1, 0, none⟩ (.int .i64 x.op)).setCell ⟨w.heap.size + 1, 1, none⟩ (.int .i64 x.a)).setCell ⟨w.heap.size + 1, 2, none⟩ (.int .i64 x.b)).setCell ⟨w.heap.size + 1, 3, none⟩ (.int .i64 x.c)) (w.heap.size + 1) 37 (ic x) := (((RR.set 0 _).set 1 _).set 2 _).set 3 _
      have hnb : rb ≠ w.heap.size + 1 := by omega
      refine bodyPost_ret (v := .agg #[.int .i64 x.op, .int .i64 x.a, .int .i64 x.b, .int .i64 x.c]) (results_cell_row Try.results21 _ _ (w.heap.size + 1) 37 (ic x).toArray (0, 0) _ rfl RZ Try.underlying37 rfl (by kernel_rfl)) rfl ?_
      rw [HS.out]
      refine ⟨rfl, ?_, ?_⟩
      · exact (((R1.other 0 _ hnb).other 1 _ hnb).other 2 _ hnb).other 3 _ hnb
      · have hz : w.heap.size ≤ w.heap.size + 1 := by omega
        exact (((T.setCell (p := ⟨w.heap.size + 1, 0, none⟩) (Or.inr hz) _).setCell (p := ⟨w.heap.size + 1, 1, none⟩) (Or.inr hz) _).setCell (p := ⟨w.heap.size + 1, 2, none⟩) (Or.inr hz) _).setCell (p := ⟨w.heap.size + 1, 3, none⟩) (Or.inr hz) _
end Go.Proofs.Ytedgeoigapilnaa
