/- code: Same by contract: true of two readings of one program. -/
import Derived.Test.YtedgeoigapilnaaMay
import Derived.Laws.StructEq
namespace Go.Proofs.Ytedgeoigapilnaa
open Go.RowKit

theorem eqFields_same (w : World) (d : Nat) (xs : Array Value) : ∀ fs : List Field, (∀ f ∈ fs, f.type = 3 ∧ ∃ n, (part 3 xs f.offset).run Try.prog w = .ok (.int .i64 n) w) → (Op.eqFields (d + 1) xs xs fs).run Try.prog w = .ok true w
  | [], _ => by simp [Op.eqFields]
  | f :: fs, h => by
    obtain ⟨h1, n, h2⟩ := h f (by simp)
    have ih := eqFields_same w d xs fs (fun g hg => h g (by simp [hg]))
    have he := run_equalIn_int (P := Try.prog) w d 3 .i64 .i64 n n Try.underlying3
    simp only [beq_self_eq_true] at he
    by_cases hn : f.name = "_"
    · simp [Op.eqFields, hn, ih]
    · simp [Op.eqFields, hn, ih, h1, h2, he, Result.andThen]
theorem run_neq_inst (w : World) (x : In) : (binOp .neq 37 (.agg #[.int .i64 x.op, .int .i64 x.a, .int .i64 x.b, .int .i64 x.c]) (.agg #[.int .i64 x.op, .int .i64 x.a, .int .i64 x.b, .int .i64 x.c])).run Try.prog w = .ok (.bool false) w := by
  have h1 : Try.prog.stoodInHeld 37 = false := by kernel_rfl
  have h2 : Try.prog.underlying 37 = some (.struct (Try.prog.fieldsOf 37)) := by kernel_rfl
  have h3 : (Try.prog.fieldsOf 37).toList.all (fun f => f.type == 3 && decide (f.offset < 4)) = true := by kernel_rfl
  have h4 := List.all_eq_true.1 h3
  rw [run_neq_struct, run_equalIn_struct (P := Try.prog) w 9999 37 _ _ h2 h1, eqFields_same w 9998]
  · rfl
  · intro f hf
    have := h4 f hf
    simp only [Bool.and_eq_true, beq_iff_eq, decide_eq_true_eq] at this
    refine ⟨this.1, ?_⟩
    have h5 : f.offset = 0 ∨ f.offset = 1 ∨ f.offset = 2 ∨ f.offset = 3 := by omega
    rcases h5 with h | h | h | h <;> rw [h]
    · exact ⟨x.op, by kernel_rfl⟩
    · exact ⟨x.a, by kernel_rfl⟩
    · exact ⟨x.b, by kernel_rfl⟩
    · exact ⟨x.c, by kernel_rfl⟩

set_option maxHeartbeats 4000000 in
set_option maxRecDepth 100000 in
theorem same_any (g : Int) (fs : List (List In)) (v1 v2 : Value) (w : World) (F1 : Funcs w v1 fs) (F2 : Funcs w v2 fs) :
    Calls Try.prog 14 #[.agg #[.int .i64 g, v1], .agg #[.int .i64 g, v2]] w fun e w' => e = .returned (.bool true) ∧ Turns (fun _ => False) w w' := by
  obtain ⟨w1, hw1⟩ : ∃ w1, (w.alloc (.cells #[.int .i64 g, v1] 24)).alloc (.cells #[.int .i64 g, v2] 24) = w1 := ⟨_, rfl⟩
  have R1 : Row w1 w.heap.size 24 [.int .i64 g, v1] := by subst hw1; exact Row.alloc (heap_new rfl) _
  have R2 : Row w1 (w.heap.size + 1) 24 [.int .i64 g, v2] := by subst hw1; exact heap_new (by simp)
  have T1 : Turns (fun _ => False) w w1 := by subst hw1; exact ((Turns.refl _ _).alloc _).alloc _
  obtain ⟨hmax, ao, cap, rfl, hF1⟩ := F1
  obtain ⟨_, bo, cap2, rfl, hF2⟩ := F2
  have hNN : fs.length = fs.length := rfl
  generalize hN : fs.length = N at hmax R1 R2 hw1 ⊢
  have H1 := Lib.hid hw1
  have HN := Lib.hid hN
  have HF1 := Lib.hid hF1
  have HF2 := Lib.hid hF2
  have a0 := R1.cell 0 _ rfl
  have a1 := R1.cell 1 _ rfl
  have b0 := R2.cell 0 _ rfl
  have b1 := R2.cell 1 _ rfl
  have HT1 := Lib.hid T1
  clear hw1 hN hF1 hF2 hNN T1 R1 R2
  unfold maxLen at hmax
  go_enter Try.func14, Try.ntmps14
  go_wp2_with fail
  rw [H1.out]
  clear H1 a0 b0
  have HA1 := Lib.hid a1
  have HB1 := Lib.hid b1
  clear a1 b1
  go_loopw [5] (fun kv wr => ∃ k : Nat, k ≤ N ∧ kv = .int .i64 (k : Int) ∧ Turns (fun _ => False) w1 wr) (fun kv _ => N - (intOf kv).toNat)
  case atStart => exact ⟨0, by omega, rfl, Turns.refl _ _⟩
  case round =>
    obtain ⟨k, hk, rfl, T⟩ := hrel
    have a1 := T.cell HA1.out (fun x => x)
    have b1 := T.cell HB1.out (fun x => x)
    by_cases hlt : k < N
    · obtain ⟨l, hl⟩ : ∃ l, fs[k]? = some l := ⟨_, List.getElem?_eq_getElem (by rw [HN.out]; exact hlt)⟩
      obtain ⟨b, o, u, rfl, hc, ⟨hLm, ao', cap', rfl, hI⟩⟩ := HF1.out k l hl
      obtain ⟨c, p, u2, rfl, hd, ⟨_, bo', cap2', rfl, hJ⟩⟩ := HF2.out k l hl
      have hc1 := (HT1.out.then T).cell hc (fun x => x)
      have hd1 := (HT1.out.then T).cell hd (fun x => x)
      have hLL : l.length = l.length := rfl
      generalize hL : l.length = L at hc1 hd1 hLm
      unfold maxLen at hLm
      have HC1 := Lib.hid hc1
      have HD1 := Lib.hid hd1
      have HAr := Lib.hid a1
      have HBr := Lib.hid b1
      have HL := Lib.hid hL
      have HI := Lib.hid hI
      have HJ := Lib.hid hJ
      have HT := Lib.hid T
      clear hL hLL hI hJ hc hd hl T
      have i0 : (0 : Int) ≤ (k : Int) := by omega
      have i1 : (k : Int) < (N : Int) := by omega
      go_wp2_with fail
      go_quiet (fail)
      go_wp2_with fail
      have hw' : Turns (fun _ => False) wr (wr.drewN nq) := drewN_turns _ _
      have hdd := Lib.hid hw'
      clear hw' a1 b1 hc1 hd1 i0 i1
      go_loopw [6] (fun iv ws => ∃ i : Nat, i ≤ L ∧ iv = .int .i64 (i : Int) ∧ Turns (fun _ => False) wr ws) (fun iv _ => L - (intOf iv).toNat)
      case atStart => exact ⟨0, by omega, rfl, hdd.out⟩
      case round =>
        clear hdd
        obtain ⟨i, hi, rfl, TI⟩ := hrel
        have a1 := TI.cell HAr.out (fun x => x)
        have b1 := TI.cell HBr.out (fun x => x)
        have c1 := TI.cell HC1.out (fun x => x)
        have d1 := TI.cell HD1.out (fun x => x)
        have i0 : (0 : Int) ≤ (k : Int) := by omega
        have i1 : (k : Int) < (N : Int) := by omega
        by_cases hiL : i < L
        · obtain ⟨x, hx⟩ : ∃ x, l[i]? = some x := ⟨_, List.getElem?_eq_getElem (by rw [HL.out]; exact hiL)⟩
          obtain ⟨xb, xo, rfl, hcx⟩ := HI.out i x hx
          obtain ⟨yb, yo, rfl, hcy⟩ := HJ.out i x hx
          have T3 := (HT1.out.then HT.out).then TI
          have x0 := T3.cell (hcx 0 _ rfl) (fun x => x)
          have x1 := T3.cell (hcx 1 _ rfl) (fun x => x)
          have x2 := T3.cell (hcx 2 _ rfl) (fun x => x)
          have x3 := T3.cell (hcx 3 _ rfl) (fun x => x)
          have y0 := T3.cell (hcy 0 _ rfl) (fun x => x)
          have y1 := T3.cell (hcy 1 _ rfl) (fun x => x)
          have y2 := T3.cell (hcy 2 _ rfl) (fun x => x)
          have y3 := T3.cell (hcy 3 _ rfl) (fun x => x)
          simp only [Nat.add_zero] at x0 y0
          have HTI := Lib.hid TI
          clear T3 hcx hcy hx TI
          have i2 : (0 : Int) ≤ (i : Int) := by omega
          have i3 : (i : Int) < (L : Int) := by omega
          have hq := fun w => run_neq_inst w x
          go_wp2_with fail
          go_quiet (fail)
          have hdd := Lib.hid (HTI.out.drewN nq)
          go_wp2_with fail
          go_roundw
          case rel => exact ⟨i + 1, by omega, by go_num, hdd.out⟩
          case measure => simp [intOf]; omega
        · obtain rfl : i = L := by omega
          have HTI := Lib.hid (HT.out.then TI)
          clear TI
          go_wp2_with fail
          go_roundw
          case rel => exact ⟨k + 1, by omega, by go_num, HTI.out⟩
          case measure => simp [intOf]; omega
    · obtain rfl : k = N := by omega
      have HT := Lib.hid T
      clear T
      go_wp2_with fail
      go_ret
      exact ⟨rfl, HT1.out.then HT.out⟩
end Go.Proofs.Ytedgeoigapilnaa
