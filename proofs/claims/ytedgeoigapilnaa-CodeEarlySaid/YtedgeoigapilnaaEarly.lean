/- code: the walk of CodeEarly. Printed by wip/tools/early_gen.py. -/
import Derived.Test.YtedgeoigapilnaaErl
namespace Go.Proofs.Ytedgeoigapilnaa
open Go.RowKit
set_option linter.unusedSimpArgs false

set_option maxHeartbeats 8000000 in
set_option maxRecDepth 100000 in
theorem early_walk {w : World} (v : Value) (p : Pr) (h : IsProg w v p) (at_ : Int) (_wa : (Lit.int .i64 at_).wf = true) (a : Option Addr) (n cap : Nat) (zs : List Int) (IB : IsBytes w a n zs) :
    Calls Try.prog 5 #[v, .int .i64 at_, .slice a n cap] w fun e w' => e = .returned (.bool true) ∧ Below w.heap.size w w' := by
  obtain ⟨fv, rfl, wg, F⟩ := h
  obtain ⟨w1, hw1⟩ : ∃ w1, w.alloc (.cells #[.int .i64 p.g, fv] 24) = w1 := ⟨_, rfl⟩
  have R1 : Row w1 w.heap.size 24 [.int .i64 p.g, fv] := by subst hw1; exact heap_new rfl
  have T1 : Turns (fun _ => False) w w1 := by subst hw1; exact (Turns.refl _ _).alloc _
  have F1 := F.later T1
  have HIB := Lib.hid (IB.later T1 (fun _ _ _ x => x))
  obtain ⟨hmax, ao, fcap, hfv, hfun⟩ := F
  obtain ⟨N, hLL⟩ : ∃ N, p.fs.length = N := ⟨_, rfl⟩
  rw [hLL] at hfv
  clear hfun
  subst hfv
  have HR1 := Lib.hid R1
  have HT1 := Lib.hid T1
  have H1 := Lib.hid hw1
  have HF := Lib.hid F1
  have HLL := Lib.hid hLL
  clear hw1 R1 hmax hLL IB F1 T1
  by_cases hmay : mayI p = 0
  · have E : Hid (∀ w', Turns (fun _ => False) w1 w' → Calls Try.prog 16 #[.agg #[.int .i64 p.g, .slice ao N fcap]] w' fun e w'' => e = .returned (.tuple #[.string (strOfNums (encI p)), .int .i64 0]) ∧ Turns (fun _ => False) w' w'') := Lib.hid (fun w' t => renc_ok wg (HF.out.later t) hmay)
    have HG := Lib.hid (mayI_good hmay)
    have s7 : 7 ≤ (strOfNums (encI p)).size := by rw [strOfNums_size]; exact encI_ge HG.out
    have HS := Lib.hid (strOfNums_size (encI p))
    clear hmay wg
    obtain ⟨s, hs⟩ : ∃ s, strOfNums (encI p) = s := ⟨_, rfl⟩
    rw [hs] at s7 HS E
    have Hs := Lib.hid hs
    clear hs
    go_enter Try.func5, Try.ntmps5
    go_wp2_with fail
    rw [H1.out]
    have c0 := HR1.out.cell 0 _ rfl
    have c1 := HR1.out.cell 1 _ rfl
    refine (E.out w1 (Turns.refl _ _)).mono ?_
    rintro e w2 ⟨rfl, T2⟩
    have HT2 := Lib.hid T2
    have c0 := T2.cell c0 (fun x => x)
    have c1 := T2.cell c1 (fun x => x)
    clear T2
    by_cases h3 : 3000 < s.size
    · have d0 : decide (3000 < (s.size : Int)) = true := by simp; omega
      clear c0 c1
      go_wp2_with fail
      refine (told_any _).mono ?_
      rintro e w4 ⟨rfl, T4⟩
      have HT4 := Lib.hid (HT2.out.then T4)
      clear T4
      go_wp2_with fail
      go_ret
      exact ⟨rfl, below_of (HT1.out.then HT4.out)⟩
    · have d0 : decide (3000 < (s.size : Int)) = false := by simp; omega
      by_cases h5 : 50 < n
      · have d1 : decide (50 < (n : Int)) = true := by simp; omega
        clear c0 c1
        go_wp2_with fail
        refine (told_any _).mono ?_
        rintro e w4 ⟨rfl, T4⟩
        have HT4 := Lib.hid (HT2.out.then T4)
        clear T4
        go_wp2_with fail
        go_ret
        exact ⟨rfl, below_of (HT1.out.then HT4.out)⟩
      · have d1 : decide (50 < (n : Int)) = false := by simp; omega
        go_wp2_with fail
        clear d0 d1
        clear c0 c1
        have N1 := Lib.hid (And.intro HG.out.n1 HG.out.n16)
        have N16 : N ≤ 16 := by have h1 := N1.out.2; have h2 := HLL.out; omega
        go_loopw [9, 10, 11] (fun ov kv fv wr => ∃ (F : Nat) (os : List Nat), F ≤ N ∧ fv = .int .i64 (F : Int) ∧ kv = .int .i64 ((2 + kF p F : Nat) : Int) ∧ Hid (os.length ≤ F * 64 ∧ (0 < F → 0 < os.length) ∧ ∀ z ∈ os, PosOk p z) ∧ OV wr w1.heap.size ov os ∧ Turns (fun _ => False) w1 wr)
          (fun _ _ fv _ => N - (intOf fv).toNat)
        case atStart => exact ⟨0, [], by omega, rfl, by rw [kF_zero]; rfl, Lib.hid ⟨by simp, fun h => by omega, fun z hz => by simp at hz⟩, OV.nil _ _, HT2.out⟩
        case round =>
          obtain ⟨F, os, hFN, rfl, rfl, hos, V, T⟩ := hrel
          obtain ⟨wo, rfl⟩ : ∃ wo : World, wo = wr := ⟨_, rfl⟩
          obtain ⟨k, hk⟩ : ∃ k, 2 + kF p F = k := ⟨_, rfl⟩
          rw [hk]
          have Hk := Lib.hid hk
          clear hk
          have c1 := (HR1.out.later T (fun x => x)).cell 1 _ rfl
          have HV := Lib.hid V
          have HT := Lib.hid T
          clear V T
          by_cases hF : F < N
          · obtain ⟨l, fb, fo, ao', cap', hl, hao, hcu, l1, l64⟩ := funcs_at HF.out HLL.out HG.out F hF
            subst hao
            have Hl := Lib.hid hl
            have Hcu := Lib.hid hcu
            have cu := HT.out.cell hcu (fun x => x)
            clear hl hcu
            have k5 := Lib.hid (kF_le p (F + 1))
            have k6 := Lib.hid (kF_succ Hl.out)
            have hk5 : k ≤ 3000 := by have h1 := k5.out; have h2 := k6.out; have h3 := Hk.out; have h4 := HS.out; omega
            go_wp2_with fail
            clear c1 cu
            go_loopw [9, 10, 12] (fun ov kv jv wr => ∃ (J : Nat) (os : List Nat), J ≤ l.length ∧ jv = .int .i64 (J : Int) ∧ kv = .int .i64 ((k + 1 + 4 * J : Nat) : Int) ∧ Hid (os.length ≤ F * 64 + J ∧ (0 < J → 0 < os.length) ∧ ∀ z ∈ os, PosOk p z) ∧ OV wr w1.heap.size ov os ∧ Turns (fun _ => False) w1 wr)
              (fun _ _ jv _ => l.length - (intOf jv).toNat)
            case atStart => exact ⟨0, os, by omega, rfl, by go_num, Lib.hid ⟨by have := hos.out.1; omega, fun h => by omega, hos.out.2.2⟩, HV.out, HT.out⟩
            case round =>
              obtain ⟨J, os2, hJl, rfl, rfl, hos2, V, T⟩ := hrel
              obtain ⟨wm, rfl⟩ : ∃ wm : World, wm = wr := ⟨_, rfl⟩
              obtain ⟨kk, hkk⟩ : ∃ kk, k + 1 + 4 * J = kk := ⟨_, rfl⟩
              rw [hkk]
              have Hkk := Lib.hid hkk
              clear hkk
              have c1 := (HR1.out.later T (fun x => x)).cell 1 _ rfl
              have cu := T.cell Hcu.out (fun x => x)
              have HV2 := Lib.hid V
              have HT2' := Lib.hid T
              have hkk5 : kk ≤ 3000 := by have h1 := k5.out; have h2 := k6.out; have h3 := Hk.out; have h4 := HS.out; have h5 := Hkk.out; omega
              clear V T
              by_cases hJ : J < l.length
              · have HX := Lib.hid (show Row (wm.alloc (.cells #[.int .i64 (kk : Int)] 3)) wm.heap.size 3 [.int .i64 (kk : Int)] from heap_new rfl)
                have HVa := Lib.hid (HV2.out.later ((Turns.refl (fun _ => False) wm).alloc (.cells #[.int .i64 (kk : Int)] 3)) (fun _ _ x => x))
                have HTa := Lib.hid (HT2'.out.alloc (.cells #[.int .i64 (kk : Int)] 3))
                have hl0 : os2.length ≤ 100000 := by have h1 := hos2.out.1; have h2 := N1.out.2; have h3 := HLL.out; omega
                go_wp2_with (
                  refine wpList_append_num rfl (.tmp 64) (.tmp 66) rfl w1.heap.size _ os2 wm.heap.size 1 kk rfl rfl HVa.out HX.out hl0 HTa.out.size ?_
                  intro v8 w8 V8 G8
                  have HV8 := Lib.hid V8
                  have HT8 := Lib.hid (HTa.out.trans (E := fun _ => False) G8.turns (fun j h _ => h) (fun j h h' => by have := View.low HVa.out _ h; omega))
                  clear V8 G8)
                go_roundw
                case rel =>
                  refine ⟨J + 1, os2 ++ [kk], by omega, by go_num, ?_, Lib.hid ⟨by rw [List.length_append]; have := hos2.out.1; simp; omega, fun _ => by simp, fun z hz => ?_⟩, HV8.out, HT8.out⟩
                  · have e : ((k + 1 + 4 * (J + 1) : Nat) : Int) = (kk : Int) + 4 := by have := Hkk.out; omega
                    rw [e]
                  · rcases List.mem_append.1 hz with h | h
                    · exact hos2.out.2.2 z h
                    · rw [List.mem_singleton.1 h, ← Hkk.out, ← Hk.out]
                      exact kF_pos Hl.out hJ
                case measure => simp [intOf]; omega
              · obtain rfl : J = l.length := by omega
                go_wp2_with fail
                go_roundw
                case rel =>
                  refine ⟨F + 1, os2, by omega, by go_num, ?_, Lib.hid ⟨by have := hos2.out.1; omega, fun _ => hos2.out.2.1 (by omega), hos2.out.2.2⟩, HV2.out, HT2'.out⟩
                  have e : 2 + kF p (F + 1) = kk := by have h2 := k6.out; have h3 := Hk.out; have h5 := Hkk.out; omega
                  rw [e]
                case measure => simp [intOf]; omega
          · obtain rfl : F = N := by omega
            have hos0 : 0 < os.length := hos.out.2.1 (by have h1 := N1.out.1; have h2 := HLL.out; omega)
            have hos5 : os.length ≤ 5000 := by have h1 := hos.out.1; have h2 := N1.out.2; have h3 := HLL.out; omega
            have HPs := Lib.hid hos.out.2.2
            obtain ⟨gb, go, gcap, hov, hoc⟩ := OV.at_ HV.out hos0
            subst hov
            obtain ⟨nn, hnn⟩ : ∃ nn, os.length = nn := ⟨_, rfl⟩
            rw [hnn] at hos0 hos5 hoc ⊢
            clear HV hos hnn
            obtain ⟨j, hj, hjj⟩ := rem_nat64 at_ nn hos0 hos5
            obtain ⟨X, hXm, hcX⟩ := hoc j hj
            have HX := Lib.hid (HPs.out X hXm)
            have hXs : X < s.size := by have h1 := pos_lt HX.out; have h2 := HS.out; omega
            clear HPs hoc hXm
            have j0 : (0 : Int) ≤ (j : Int) := by omega
            have j1 : (j : Int) < (nn : Int) := by omega
            have hnw : IntKind.u64.wrap (nn : Int) = (nn : Int) := by rw [IntKind.wrap_u64]; omega
            have hnz : ¬ (nn : Int) = 0 := by omega
            go_wp2_with fail
            clear hcX hjj j0 j1 hnw hnz c1
            have hkw : IntKind.i64.wrap ((X : Int) + 1) = (X : Int) + 1 := IntWalk.i64_in _ (by omega)
            have k0 : (0 : Int) ≤ (X : Int) := by omega
            have k1 : (X : Int) ≤ (s.size : Int) := by omega
            have k2 : (0 : Int) ≤ (X : Int) + 1 := by omega
            have k3 : (X : Int) + 1 ≤ (s.size : Int) := by omega
            have k4 : ((X : Int) + 1).toNat = X + 1 := by omega
            have k5' : X ≤ s.size := by omega
            have k6' : X + 1 ≤ s.size := by omega
            have n1 : ¬ 9223372036854775807 < X + 1 := by omega
            have n2 : ¬ 9223372036854775807 < X + 1 + (s.size - (X + 1)) := by omega
            go_quiet (fail)
            obtain ⟨x1, hx1⟩ : ∃ x1, s.extract 0 X ++ ⟨#[255]⟩ ++ s.extract (X + 1) s.size = x1 := ⟨_, rfl⟩
            obtain ⟨x2, hx2⟩ : ∃ x2, s.extract 0 X ++ ⟨#[255]⟩ = x2 := ⟨_, rfl⟩
            obtain ⟨x3, hx3⟩ : ∃ x3, (⟨#[0]⟩ : ByteArray) ++ s.extract 1 s.size = x3 := ⟨_, rfl⟩
            obtain ⟨x4, hx4⟩ : ∃ x4, s.extract 0 1 ++ ⟨#[33]⟩ ++ s.extract 2 s.size = x4 := ⟨_, rfl⟩
            obtain ⟨ts, hts⟩ : ∃ ts, strOfNums zs = ts := ⟨_, rfl⟩
            have z5 : ts.size ≤ 50 := by rw [← hts, strOfNums_size, HIB.out.len]; omega
            have z1 : x1.size ≤ 4000 := by rw [← hx1]; simp only [ByteArray.size_append, ByteArray.size_extract]; have : (⟨#[255]⟩ : ByteArray).size = 1 := rfl; omega
            have z2 : x2.size ≤ 4000 := by rw [← hx2]; simp only [ByteArray.size_append, ByteArray.size_extract]; have : (⟨#[255]⟩ : ByteArray).size = 1 := rfl; omega
            have z3 : x3.size ≤ 4000 := by rw [← hx3]; simp only [ByteArray.size_append, ByteArray.size_extract]; have : (⟨#[0]⟩ : ByteArray).size = 1 := rfl; omega
            have z4 : x4.size ≤ 4000 := by rw [← hx4]; simp only [ByteArray.size_append, ByteArray.size_extract]; have : (⟨#[33]⟩ : ByteArray).size = 1 := rfl; omega
            obtain ⟨ta, hta⟩ : ∃ ta, x1 ++ ts = ta := ⟨_, rfl⟩
            obtain ⟨tb, htb⟩ : ∃ tb, x2 ++ ts = tb := ⟨_, rfl⟩
            have za : ta.size ≤ 5000 := by rw [← hta, ByteArray.size_append]; omega
            have zb : tb.size ≤ 5000 := by rw [← htb, ByteArray.size_append]; omega
            have HDa : Hid (decR (nums ta) = .error X) := Lib.hid (by rw [← hta, ← hx1, ← Hs.out]; exact early_b HG.out HX.out _ _)
            have HDb : Hid (decR (nums tb) = .error X) := Lib.hid (by rw [← htb, ← hx2, ← Hs.out]; exact early_a HG.out HX.out _)
            have HDc : Hid (decR (nums x3) = .error 0) := Lib.hid (by rw [← hx3]; exact early_c _)
            have HDd : Hid (decR (nums x4) = .error 1) := Lib.hid (by rw [← hx4, ← Hs.out]; exact early_d HG.out _)
            have HTq := Lib.hid (HT.out.drewN nq)
            have HST : Hid (∀ w', Turns (fun _ => False) w1 w' → (convert 27 9 (.slice a n cap)).run Try.prog w' = .ok (.string ts) w') := Lib.hid (fun w' t => by rw [← hts]; exact run_string (HIB.out.later t (fun _ _ _ x => x)) cap)
            rw [hx1]
            have Hx2 := Lib.hid hx2
            have Hx3 := Lib.hid hx3
            have Hx4 := Lib.hid hx4
            have Htb := Lib.hid htb
            clear HT hx1 hx2 hx3 hx4 hts htb
            generalize wo.drewN nq = wq at HTq ⊢
            have hcs := HST.out wq HTq.out
            have n3 : ¬ 9223372036854775807 < x1.size + ts.size := by omega
            obtain ⟨a5, c5, w5, hcv, IB5, T5⟩ := bytes_of ta wq
            have HIB5 := Lib.hid IB5
            have HT5 := Lib.hid (HTq.out.then T5)
            clear IB5 T5
            go_wp2_with fail
            refine (dec_bad HIB5.out (by omega) HDa.out).mono ?_
            rintro e w6 ⟨rfl, T6⟩
            have HT6 := Lib.hid (HT5.out.then T6)
            clear T6 hcv hcs n3 hta HIB5 HT5 HTq HDa
            go_wp2_with fail
            have HT7 := Lib.hid (HT6.out.alloc (.cells #[.int .i64 0, .slice none 0 0] 24))
            generalize w6.alloc (.cells #[.int .i64 0, .slice none 0 0] 24) = w7 at HT7 ⊢
            generalize w6.heap.size = b6
            clear HT6
            have HSS : Hid (∀ w', Turns (fun _ => False) w7 w' → (Turns (fun _ => False) w7 w' ∧ (convert 27 9 (.slice a n cap)).run Try.prog w' = .ok (.string ts) w')) := Lib.hid (fun w' t => ⟨t, HST.out w' (HT7.out.then t)⟩)
            have HSY := Lib.hid ((Turns.refl (fun _ => False) w7).drew)
            refine wp_region_held_drew (S := (fun w' => (Turns (fun _ => False) w7 w' ∧ (convert 27 9 (.slice a n cap)).run Try.prog w' = .ok (.string ts) w'))) (by kernel_rfl) ?_ (fun hHeld => ?_)
            · exact HSS.out _ HSY.out
            generalize w7.drew = wy at HSY hHeld ⊢
            have hx2 := Hx2.out
            have htb := Htb.out
            have n4 : ¬ 9223372036854775807 < x2.size + ts.size := by omega
            refine wpAnyH_take (i := 0) (v := ?_) rfl (by kernel_rfl) (by kernel_rfl) (by kernel_rfl) (fun _ _ _ h => h) (Or.inl ⟨by rfl, ?_⟩) (by assumption) ?_
            rotate_left
            · (intro w' hSw; (try dsimp only at hSw); first | (go_simp; done) | (go_simp; with_reducible rfl))
            try simp only [Act.put, List.getElem_toArray, List.getElem_cons_zero, List.getElem_cons_succ, List.setIfInBounds_toArray, List.set_cons_zero, List.set_cons_succ]
            refine wpAnyH_take (i := 1) (v := ?_) rfl (by kernel_rfl) (by kernel_rfl) (by kernel_rfl) (fun _ _ _ h => h) (Or.inl ⟨by rfl, ?_⟩) (by assumption) ?_
            rotate_left
            · (intro w' hSw; (try dsimp only at hSw); first | (go_simp; done) | (go_simp; with_reducible rfl))
            try simp only [Act.put, List.getElem_toArray, List.getElem_cons_zero, List.getElem_cons_succ, List.setIfInBounds_toArray, List.set_cons_zero, List.set_cons_succ]
            refine wpAnyH_take (i := 2) (v := ?_) rfl (by kernel_rfl) (by kernel_rfl) (by kernel_rfl) (fun _ _ _ h => h) (Or.inl ⟨by rfl, ?_⟩) (by assumption) ?_
            rotate_left
            · (intro w' hSw; (try dsimp only at hSw); first | (go_simp; done) | (go_simp; with_reducible rfl))
            try simp only [Act.put, List.getElem_toArray, List.getElem_cons_zero, List.getElem_cons_succ, List.setIfInBounds_toArray, List.set_cons_zero, List.set_cons_succ]
            refine wpAnyH_take (i := 3) (v := ?_) rfl (by kernel_rfl) (by kernel_rfl) (by kernel_rfl) (fun _ _ _ h => h) (Or.inl ⟨by rfl, ?_⟩) (by assumption) ?_
            rotate_left
            · (intro w' hSw; (try dsimp only at hSw); first | (go_simp; done) | (go_simp; with_reducible rfl))
            try simp only [Act.put, List.getElem_toArray, List.getElem_cons_zero, List.getElem_cons_succ, List.setIfInBounds_toArray, List.set_cons_zero, List.set_cons_succ]
            refine wpAnyH_take (i := 4) (v := ?_) rfl (by kernel_rfl) (by kernel_rfl) (by kernel_rfl) (fun _ _ _ h => h) (Or.inl ⟨by rfl, ?_⟩) (by assumption) ?_
            rotate_left
            · (intro w' hSw; (try dsimp only at hSw); first | (go_simp; done) | (go_simp; with_reducible rfl))
            try simp only [Act.put, List.getElem_toArray, List.getElem_cons_zero, List.getElem_cons_succ, List.setIfInBounds_toArray, List.set_cons_zero, List.set_cons_succ]
            refine wpAnyH_take (i := 5) (v := ?_) rfl (by kernel_rfl) (by kernel_rfl) (by kernel_rfl) (fun _ _ _ h => h) (Or.inl ⟨by rfl, ?_⟩) (by assumption) ?_
            rotate_left
            · (intro w' hSw; (try dsimp only at hSw); first | (go_simp; done) | (go_simp; with_reducible rfl))
            try simp only [Act.put, List.getElem_toArray, List.getElem_cons_zero, List.getElem_cons_succ, List.setIfInBounds_toArray, List.set_cons_zero, List.set_cons_succ]
            refine wpAnyH_take (i := 6) (v := ?_) rfl (by kernel_rfl) (by kernel_rfl) (by kernel_rfl) (fun _ _ _ h => h) (Or.inl ⟨by rfl, ?_⟩) (by assumption) ?_
            rotate_left
            · (intro w' hSw; (try dsimp only at hSw); first | (go_simp; done) | (go_simp; with_reducible rfl))
            try simp only [Act.put, List.getElem_toArray, List.getElem_cons_zero, List.getElem_cons_succ, List.setIfInBounds_toArray, List.set_cons_zero, List.set_cons_succ]
            clear hHeld
            clear hx2 htb n4
            refine wpAnyH_ready (rs := [7, 13]) (by kernel_rfl) (by simp) ?_
            refine AllReadyH.cons rfl (fun K' hK => ?_) (AllReadyH.cons rfl (fun K' hK => ?_) AllReadyH.nil)
            · skip
              obtain ⟨ab, cb, wy1, hcv, IBb, Tb⟩ := bytes_of tb wy
              have HIBb := Lib.hid IBb
              have HSY1 := Lib.hid (HSY.out.then Tb)
              clear IBb Tb
              go_simp
              clear hcv
              refine hK.out _ _ (HSS.out _ HSY1.out) (fun hHeld => ?_)
              clear hK K' hHeld
              try simp only [Act.put, List.getElem_toArray, List.getElem_cons_zero, List.getElem_cons_succ, List.setIfInBounds_toArray, List.set_cons_zero, List.set_cons_succ]
              refine wpAnyH_ready (rs := [8, 13]) (by kernel_rfl) (by simp) ?_
              refine AllReadyH.cons rfl (fun K' hK => ?_) (AllReadyH.cons rfl (fun K' hK => ?_) AllReadyH.nil)
              · skip
                go_simp
                refine (dec_bad HIBb.out (by omega) HDb.out).mono ?_
                rintro e wy2 ⟨rfl, Tb⟩
                have HSY2 := Lib.hid (HSY1.out.then Tb)
                clear Tb HIBb
                refine hK.out _ _ (HSS.out _ HSY2.out) (fun hHeld => ?_)
                clear hK K' hHeld
                try simp only [Act.put, List.getElem_toArray, List.getElem_cons_zero, List.getElem_cons_succ, List.setIfInBounds_toArray, List.set_cons_zero, List.set_cons_succ]
                have hHeld : (Turns (fun _ => False) w7 wy2 ∧ (convert 27 9 (.slice a n cap)).run Try.prog wy2 = .ok (.string ts) wy2) := HSS.out _ HSY2.out
                refine wpAnyH_take (i := 9) (v := ?_) rfl (by kernel_rfl) (by kernel_rfl) (by kernel_rfl) (fun _ _ _ h => h) (Or.inl ⟨by rfl, ?_⟩) (by assumption) ?_
                rotate_left
                · (intro w' hSw; (try dsimp only at hSw); first | (go_simp; done) | (go_simp; with_reducible rfl))
                try simp only [Act.put, List.getElem_toArray, List.getElem_cons_zero, List.getElem_cons_succ, List.setIfInBounds_toArray, List.set_cons_zero, List.set_cons_succ]
                refine wpAnyH_take (i := 10) (v := ?_) rfl (by kernel_rfl) (by kernel_rfl) (by kernel_rfl) (fun _ _ _ h => h) (Or.inl ⟨by rfl, ?_⟩) (by assumption) ?_
                rotate_left
                · (intro w' hSw; (try dsimp only at hSw); first | (go_simp; done) | (go_simp; with_reducible rfl))
                try simp only [Act.put, List.getElem_toArray, List.getElem_cons_zero, List.getElem_cons_succ, List.setIfInBounds_toArray, List.set_cons_zero, List.set_cons_succ]
                refine wpAnyH_take (i := 11) (v := ?_) rfl (by kernel_rfl) (by kernel_rfl) (by kernel_rfl) (fun _ _ _ h => h) (Or.inl ⟨by rfl, ?_⟩) (by assumption) ?_
                rotate_left
                · (intro w' hSw; (try dsimp only at hSw); first | (go_simp; done) | (go_simp; with_reducible rfl))
                try simp only [Act.put, List.getElem_toArray, List.getElem_cons_zero, List.getElem_cons_succ, List.setIfInBounds_toArray, List.set_cons_zero, List.set_cons_succ]
                refine wpAnyH_take (i := 12) (v := ?_) rfl (by kernel_rfl) (by kernel_rfl) (by kernel_rfl) (fun _ _ _ h => h) (Or.inl ⟨by rfl, ?_⟩) (by assumption) ?_
                rotate_left
                · (intro w' hSw; (try dsimp only at hSw); first | (go_simp; done) | (go_simp; with_reducible rfl))
                try simp only [Act.put, List.getElem_toArray, List.getElem_cons_zero, List.getElem_cons_succ, List.setIfInBounds_toArray, List.set_cons_zero, List.set_cons_succ]
                clear hHeld
                refine wpAnyH_ready (rs := [13]) (by kernel_rfl) (by simp) ?_
                refine AllReadyH.cons rfl (fun K' hK => ?_) AllReadyH.nil
                have HRV : Hid (Row (wy2.alloc (.cells #[.int .i64 0, .slice none 0 0] 24)) wy2.heap.size 24 [.int .i64 0, .slice none 0 0]) := Lib.hid (heap_new rfl)
                have HRB : Hid (w7.heap.size ≤ wy2.heap.size) := Lib.hid HSY2.out.size
                have HSY3 := Lib.hid (HSY2.out.alloc (.cells #[.int .i64 0, .slice none 0 0] 24))
                go_simp
                refine hK.out _ _ (HSS.out _ HSY3.out) (fun hHeld => ?_)
                clear hK K' hHeld
                try simp only [Act.put, List.getElem_toArray, List.getElem_cons_zero, List.getElem_cons_succ, List.setIfInBounds_toArray, List.set_cons_zero, List.set_cons_succ]
                generalize wy2.alloc (.cells #[.int .i64 0, .slice none 0 0] 24) = wy3 at HRV HSY3 ⊢
                generalize wy2.heap.size = rv at HRV HRB ⊢
                have v0 := HRV.out.cell 0 _ rfl
                have v1 := HRV.out.cell 1 _ rfl
                have vf0 := HRV.out.free 0
                have vf1 := HRV.out.free 1
                have vl := HRV.out.lt
                refine wpAnyH_ready (rs := [14]) (by kernel_rfl) (by simp) ?_
                refine AllReadyH.cons rfl (fun K' hK => ?_) AllReadyH.nil
                go_simp
                have HSZ := Lib.hid ((HSY3.out.setCell (p := ⟨rv, 0, none⟩) (Or.inr HRB.out) (.int .i64 0)).setCell (p := ⟨rv, 1, none⟩) (Or.inr HRB.out) (.slice none 0 0))
                refine hK.out _ _ (HSS.out _ HSZ.out) (fun hHeld => ?_)
                clear hK K' hHeld v0 v1 vf0 vf1 vl HRV
                try simp only [Act.put, List.getElem_toArray, List.getElem_cons_zero, List.getElem_cons_succ, List.setIfInBounds_toArray, List.set_cons_zero, List.set_cons_succ]
                generalize (wy3.setCell ⟨rv, 0, none⟩ (.int .i64 0)).setCell ⟨rv, 1, none⟩ (.slice none 0 0) = wz at HSZ ⊢
                have hHeld : (Turns (fun _ => False) w7 wz ∧ (convert 27 9 (.slice a n cap)).run Try.prog wz = .ok (.string ts) wz) := HSS.out _ HSZ.out
                refine wpAnyH_take (i := 15) (v := ?_) rfl (by kernel_rfl) (by kernel_rfl) (by kernel_rfl) (fun _ _ _ h => h) (Or.inl ⟨by rfl, ?_⟩) (by assumption) ?_
                rotate_left
                · (intro w' hSw; (try dsimp only at hSw); first | (go_simp; done) | (go_simp; with_reducible rfl))
                try simp only [Act.put, List.getElem_toArray, List.getElem_cons_zero, List.getElem_cons_succ, List.setIfInBounds_toArray, List.set_cons_zero, List.set_cons_succ]
                refine wpAnyH_take (i := 16) (v := ?_) rfl (by kernel_rfl) (by kernel_rfl) (by kernel_rfl) (fun _ _ _ h => h) (Or.inl ⟨by rfl, ?_⟩) (by assumption) ?_
                rotate_left
                · (intro w' hSw; (try dsimp only at hSw); first | (go_simp; done) | (go_simp; with_reducible rfl))
                try simp only [Act.put, List.getElem_toArray, List.getElem_cons_zero, List.getElem_cons_succ, List.setIfInBounds_toArray, List.set_cons_zero, List.set_cons_succ]
                clear hHeld
                refine wpAnyH_done (by kernel_rfl) ?_ _
                have HT8 := Lib.hid (HT7.out.then HSZ.out)
                clear HSY3 HSZ HSS HRB
                (try clear HSY)
                (try clear HSY1)
                (try clear HSY2)
                clear HT7
                have hx3 := Hx3.out
                have m1 : (1 : Int) ≤ (s.size : Int) := by omega
                have m2 : 1 ≤ s.size := by omega
                have m3 : ¬ 9223372036854775807 < 1 + (s.size - 1) := by omega
                obtain ⟨a8, c8, w8, hcv, IB8, T8⟩ := bytes_of x3 wz
                have HIB8 := Lib.hid IB8
                have HT8' := Lib.hid (HT8.out.then T8)
                clear IB8 T8
                go_wp2_with fail
                refine (dec_bad HIB8.out (by omega) HDc.out).mono ?_
                rintro e wx ⟨rfl, Tx⟩
                have HTx := Lib.hid (HT8'.out.then Tx)
                clear Tx hcv hx3 m1 m2 m3 HIB8 HT8' HT8
                go_wp2_with fail
                have HT9 := Lib.hid (HTx.out.alloc (.cells #[.int .i64 0, .slice none 0 0] 24))
                generalize wx.alloc (.cells #[.int .i64 0, .slice none 0 0] 24) = w9 at HT9 ⊢
                generalize wx.heap.size = b9
                clear HTx
                have HSS : Hid (∀ w', Turns (fun _ => False) w9 w' → (Turns (fun _ => False) w9 w' ∧ (convert 27 9 (.slice a n cap)).run Try.prog w' = .ok (.string ts) w')) := Lib.hid (fun w' t => ⟨t, HST.out w' (HT9.out.then t)⟩)
                have HSY := Lib.hid ((Turns.refl (fun _ => False) w9).drew)
                refine wp_region_held_drew (S := (fun w' => (Turns (fun _ => False) w9 w' ∧ (convert 27 9 (.slice a n cap)).run Try.prog w' = .ok (.string ts) w'))) (by kernel_rfl) ?_ (fun hHeld => ?_)
                · exact HSS.out _ HSY.out
                generalize w9.drew = wy at HSY hHeld ⊢
                have hx4 := Hx4.out
                have q0 : ¬ 9223372036854775807 < 1 + 1 := by omega
                have q1 : ¬ 9223372036854775807 < 1 + 1 + (s.size - 2) := by omega
                have q2 : (2 : Int) ≤ (s.size : Int) := by omega
                have q3 : (1 : Int) ≤ (s.size : Int) := by omega
                have q4 : 2 ≤ s.size := by omega
                have q5 : 1 ≤ s.size := by omega
                have q6 : min 1 s.size = 1 := by omega
                have q7 : ¬ 9223372036854775807 < s.size := by omega
                refine wpAnyH_take (i := 0) (v := ?_) rfl (by kernel_rfl) (by kernel_rfl) (by kernel_rfl) (fun _ _ _ h => h) (Or.inl ⟨by rfl, ?_⟩) (by assumption) ?_
                rotate_left
                · (intro w' hSw; (try dsimp only at hSw); first | (go_simp; done) | (go_simp; with_reducible rfl))
                try simp only [Act.put, List.getElem_toArray, List.getElem_cons_zero, List.getElem_cons_succ, List.setIfInBounds_toArray, List.set_cons_zero, List.set_cons_succ]
                refine wpAnyH_take (i := 1) (v := ?_) rfl (by kernel_rfl) (by kernel_rfl) (by kernel_rfl) (fun _ _ _ h => h) (Or.inl ⟨by rfl, ?_⟩) (by assumption) ?_
                rotate_left
                · (intro w' hSw; (try dsimp only at hSw); first | (go_simp; done) | (go_simp; with_reducible rfl))
                try simp only [Act.put, List.getElem_toArray, List.getElem_cons_zero, List.getElem_cons_succ, List.setIfInBounds_toArray, List.set_cons_zero, List.set_cons_succ]
                refine wpAnyH_take (i := 2) (v := ?_) rfl (by kernel_rfl) (by kernel_rfl) (by kernel_rfl) (fun _ _ _ h => h) (Or.inl ⟨by rfl, ?_⟩) (by assumption) ?_
                rotate_left
                · (intro w' hSw; (try dsimp only at hSw); first | (go_simp; done) | (go_simp; with_reducible rfl))
                try simp only [Act.put, List.getElem_toArray, List.getElem_cons_zero, List.getElem_cons_succ, List.setIfInBounds_toArray, List.set_cons_zero, List.set_cons_succ]
                refine wpAnyH_take (i := 3) (v := ?_) rfl (by kernel_rfl) (by kernel_rfl) (by kernel_rfl) (fun _ _ _ h => h) (Or.inl ⟨by rfl, ?_⟩) (by assumption) ?_
                rotate_left
                · (intro w' hSw; (try dsimp only at hSw); first | (go_simp; done) | (go_simp; with_reducible rfl))
                try simp only [Act.put, List.getElem_toArray, List.getElem_cons_zero, List.getElem_cons_succ, List.setIfInBounds_toArray, List.set_cons_zero, List.set_cons_succ]
                refine wpAnyH_take (i := 4) (v := ?_) rfl (by kernel_rfl) (by kernel_rfl) (by kernel_rfl) (fun _ _ _ h => h) (Or.inl ⟨by rfl, ?_⟩) (by assumption) ?_
                rotate_left
                · (intro w' hSw; (try dsimp only at hSw); first | (go_simp; done) | (go_simp; with_reducible rfl))
                try simp only [Act.put, List.getElem_toArray, List.getElem_cons_zero, List.getElem_cons_succ, List.setIfInBounds_toArray, List.set_cons_zero, List.set_cons_succ]
                refine wpAnyH_take (i := 5) (v := ?_) rfl (by kernel_rfl) (by kernel_rfl) (by kernel_rfl) (fun _ _ _ h => h) (Or.inl ⟨by rfl, ?_⟩) (by assumption) ?_
                rotate_left
                · (intro w' hSw; (try dsimp only at hSw); first | (go_simp; done) | (go_simp; with_reducible rfl))
                try simp only [Act.put, List.getElem_toArray, List.getElem_cons_zero, List.getElem_cons_succ, List.setIfInBounds_toArray, List.set_cons_zero, List.set_cons_succ]
                clear hHeld
                clear hx4
                refine wpAnyH_ready (rs := [6, 12]) (by kernel_rfl) (by simp) ?_
                refine AllReadyH.cons rfl (fun K' hK => ?_) (AllReadyH.cons rfl (fun K' hK => ?_) AllReadyH.nil)
                · skip
                  obtain ⟨ab, cb, wy1, hcv, IBb, Tb⟩ := bytes_of x4 wy
                  have HIBb := Lib.hid IBb
                  have HSY1 := Lib.hid (HSY.out.then Tb)
                  clear IBb Tb
                  go_simp
                  clear hcv
                  refine hK.out _ _ (HSS.out _ HSY1.out) (fun hHeld => ?_)
                  clear hK K' hHeld
                  try simp only [Act.put, List.getElem_toArray, List.getElem_cons_zero, List.getElem_cons_succ, List.setIfInBounds_toArray, List.set_cons_zero, List.set_cons_succ]
                  refine wpAnyH_ready (rs := [7, 12]) (by kernel_rfl) (by simp) ?_
                  refine AllReadyH.cons rfl (fun K' hK => ?_) (AllReadyH.cons rfl (fun K' hK => ?_) AllReadyH.nil)
                  · skip
                    go_simp
                    refine (dec_bad HIBb.out (by omega) HDd.out).mono ?_
                    rintro e wy2 ⟨rfl, Tb⟩
                    have HSY2 := Lib.hid (HSY1.out.then Tb)
                    clear Tb HIBb
                    refine hK.out _ _ (HSS.out _ HSY2.out) (fun hHeld => ?_)
                    clear hK K' hHeld
                    try simp only [Act.put, List.getElem_toArray, List.getElem_cons_zero, List.getElem_cons_succ, List.setIfInBounds_toArray, List.set_cons_zero, List.set_cons_succ]
                    have hHeld : (Turns (fun _ => False) w9 wy2 ∧ (convert 27 9 (.slice a n cap)).run Try.prog wy2 = .ok (.string ts) wy2) := HSS.out _ HSY2.out
                    refine wpAnyH_take (i := 8) (v := ?_) rfl (by kernel_rfl) (by kernel_rfl) (by kernel_rfl) (fun _ _ _ h => h) (Or.inl ⟨by rfl, ?_⟩) (by assumption) ?_
                    rotate_left
                    · (intro w' hSw; (try dsimp only at hSw); first | (go_simp; done) | (go_simp; with_reducible rfl))
                    try simp only [Act.put, List.getElem_toArray, List.getElem_cons_zero, List.getElem_cons_succ, List.setIfInBounds_toArray, List.set_cons_zero, List.set_cons_succ]
                    refine wpAnyH_take (i := 9) (v := ?_) rfl (by kernel_rfl) (by kernel_rfl) (by kernel_rfl) (fun _ _ _ h => h) (Or.inl ⟨by rfl, ?_⟩) (by assumption) ?_
                    rotate_left
                    · (intro w' hSw; (try dsimp only at hSw); first | (go_simp; done) | (go_simp; with_reducible rfl))
                    try simp only [Act.put, List.getElem_toArray, List.getElem_cons_zero, List.getElem_cons_succ, List.setIfInBounds_toArray, List.set_cons_zero, List.set_cons_succ]
                    refine wpAnyH_take (i := 10) (v := ?_) rfl (by kernel_rfl) (by kernel_rfl) (by kernel_rfl) (fun _ _ _ h => h) (Or.inl ⟨by rfl, ?_⟩) (by assumption) ?_
                    rotate_left
                    · (intro w' hSw; (try dsimp only at hSw); first | (go_simp; done) | (go_simp; with_reducible rfl))
                    try simp only [Act.put, List.getElem_toArray, List.getElem_cons_zero, List.getElem_cons_succ, List.setIfInBounds_toArray, List.set_cons_zero, List.set_cons_succ]
                    refine wpAnyH_take (i := 11) (v := ?_) rfl (by kernel_rfl) (by kernel_rfl) (by kernel_rfl) (fun _ _ _ h => h) (Or.inl ⟨by rfl, ?_⟩) (by assumption) ?_
                    rotate_left
                    · (intro w' hSw; (try dsimp only at hSw); first | (go_simp; done) | (go_simp; with_reducible rfl))
                    try simp only [Act.put, List.getElem_toArray, List.getElem_cons_zero, List.getElem_cons_succ, List.setIfInBounds_toArray, List.set_cons_zero, List.set_cons_succ]
                    clear hHeld
                    refine wpAnyH_ready (rs := [12]) (by kernel_rfl) (by simp) ?_
                    refine AllReadyH.cons rfl (fun K' hK => ?_) AllReadyH.nil
                    have HRV : Hid (Row (wy2.alloc (.cells #[.int .i64 0, .slice none 0 0] 24)) wy2.heap.size 24 [.int .i64 0, .slice none 0 0]) := Lib.hid (heap_new rfl)
                    have HRB : Hid (w9.heap.size ≤ wy2.heap.size) := Lib.hid HSY2.out.size
                    have HSY3 := Lib.hid (HSY2.out.alloc (.cells #[.int .i64 0, .slice none 0 0] 24))
                    go_simp
                    refine hK.out _ _ (HSS.out _ HSY3.out) (fun hHeld => ?_)
                    clear hK K' hHeld
                    try simp only [Act.put, List.getElem_toArray, List.getElem_cons_zero, List.getElem_cons_succ, List.setIfInBounds_toArray, List.set_cons_zero, List.set_cons_succ]
                    generalize wy2.alloc (.cells #[.int .i64 0, .slice none 0 0] 24) = wy3 at HRV HSY3 ⊢
                    generalize wy2.heap.size = rv at HRV HRB ⊢
                    have v0 := HRV.out.cell 0 _ rfl
                    have v1 := HRV.out.cell 1 _ rfl
                    have vf0 := HRV.out.free 0
                    have vf1 := HRV.out.free 1
                    have vl := HRV.out.lt
                    refine wpAnyH_ready (rs := [13]) (by kernel_rfl) (by simp) ?_
                    refine AllReadyH.cons rfl (fun K' hK => ?_) AllReadyH.nil
                    go_simp
                    have HSZ := Lib.hid ((HSY3.out.setCell (p := ⟨rv, 0, none⟩) (Or.inr HRB.out) (.int .i64 0)).setCell (p := ⟨rv, 1, none⟩) (Or.inr HRB.out) (.slice none 0 0))
                    refine hK.out _ _ (HSS.out _ HSZ.out) (fun hHeld => ?_)
                    clear hK K' hHeld v0 v1 vf0 vf1 vl HRV
                    try simp only [Act.put, List.getElem_toArray, List.getElem_cons_zero, List.getElem_cons_succ, List.setIfInBounds_toArray, List.set_cons_zero, List.set_cons_succ]
                    generalize (wy3.setCell ⟨rv, 0, none⟩ (.int .i64 0)).setCell ⟨rv, 1, none⟩ (.slice none 0 0) = wz at HSZ ⊢
                    have hHeld : (Turns (fun _ => False) w9 wz ∧ (convert 27 9 (.slice a n cap)).run Try.prog wz = .ok (.string ts) wz) := HSS.out _ HSZ.out
                    refine wpAnyH_take (i := 14) (v := ?_) rfl (by kernel_rfl) (by kernel_rfl) (by kernel_rfl) (fun _ _ _ h => h) (Or.inl ⟨by rfl, ?_⟩) (by assumption) ?_
                    rotate_left
                    · (intro w' hSw; (try dsimp only at hSw); first | (go_simp; done) | (go_simp; with_reducible rfl))
                    try simp only [Act.put, List.getElem_toArray, List.getElem_cons_zero, List.getElem_cons_succ, List.setIfInBounds_toArray, List.set_cons_zero, List.set_cons_succ]
                    refine wpAnyH_take (i := 15) (v := ?_) rfl (by kernel_rfl) (by kernel_rfl) (by kernel_rfl) (fun _ _ _ h => h) (Or.inl ⟨by rfl, ?_⟩) (by assumption) ?_
                    rotate_left
                    · (intro w' hSw; (try dsimp only at hSw); first | (go_simp; done) | (go_simp; with_reducible rfl))
                    try simp only [Act.put, List.getElem_toArray, List.getElem_cons_zero, List.getElem_cons_succ, List.setIfInBounds_toArray, List.set_cons_zero, List.set_cons_succ]
                    clear hHeld
                    refine wpAnyH_done (by kernel_rfl) ?_ _
                    have HT10 := Lib.hid (HT9.out.then HSZ.out)
                    clear HSY3 HSZ HSS HRB
                    (try clear HSY)
                    (try clear HSY1)
                    (try clear HSY2)
                    clear HT9
                    clear q0 q1 q2 q3 q4 q5 q6 q7
                    go_wp2_with fail
                    refine (told_any _).mono ?_
                    rintro e w11 ⟨rfl, T11⟩
                    have HT11 := Lib.hid (HT10.out.then T11)
                    clear T11
                    go_wp2_with fail
                    go_ret
                    exact ⟨rfl, below_of (HT1.out.then HT11.out)⟩
                  · skip
                    have HRV : Hid (Row (wy1.alloc (.cells #[.int .i64 0, .slice none 0 0] 24)) wy1.heap.size 24 [.int .i64 0, .slice none 0 0]) := Lib.hid (heap_new rfl)
                    have HRB : Hid (w9.heap.size ≤ wy1.heap.size) := Lib.hid HSY1.out.size
                    have HSY2 := Lib.hid (HSY1.out.alloc (.cells #[.int .i64 0, .slice none 0 0] 24))
                    have HIBc := Lib.hid (HIBb.out.later ((Turns.refl (fun _ => False) wy1).alloc (.cells #[.int .i64 0, .slice none 0 0] 24)) (fun _ _ _ x => x))
                    clear HIBb
                    go_simp
                    refine hK.out _ _ (HSS.out _ HSY2.out) (fun hHeld => ?_)
                    clear hK K' hHeld
                    try simp only [Act.put, List.getElem_toArray, List.getElem_cons_zero, List.getElem_cons_succ, List.setIfInBounds_toArray, List.set_cons_zero, List.set_cons_succ]
                    generalize wy1.alloc (.cells #[.int .i64 0, .slice none 0 0] 24) = wy2 at HRV HSY2 HIBc ⊢
                    generalize wy1.heap.size = rv at HRV HRB ⊢
                    have HIBb := HIBc
                    clear HIBc
                    refine wpAnyH_ready (rs := [7]) (by kernel_rfl) (by simp) ?_
                    refine AllReadyH.cons rfl (fun K' hK => ?_) AllReadyH.nil
                    go_simp
                    refine (dec_bad HIBb.out (by omega) HDd.out).mono ?_
                    rintro e wy3 ⟨rfl, Tb⟩
                    have HSY3 := Lib.hid (HSY2.out.then Tb)
                    have HRV2 := Lib.hid (HRV.out.later Tb (fun x => x))
                    clear HRV
                    clear Tb HIBb
                    refine hK.out _ _ (HSS.out _ HSY3.out) (fun hHeld => ?_)
                    clear hK K' hHeld
                    try simp only [Act.put, List.getElem_toArray, List.getElem_cons_zero, List.getElem_cons_succ, List.setIfInBounds_toArray, List.set_cons_zero, List.set_cons_succ]
                    have HRV := HRV2
                    clear HRV2
                    have hHeld : (Turns (fun _ => False) w9 wy3 ∧ (convert 27 9 (.slice a n cap)).run Try.prog wy3 = .ok (.string ts) wy3) := HSS.out _ HSY3.out
                    refine wpAnyH_take (i := 8) (v := ?_) rfl (by kernel_rfl) (by kernel_rfl) (by kernel_rfl) (fun _ _ _ h => h) (Or.inl ⟨by rfl, ?_⟩) (by assumption) ?_
                    rotate_left
                    · (intro w' hSw; (try dsimp only at hSw); first | (go_simp; done) | (go_simp; with_reducible rfl))
                    try simp only [Act.put, List.getElem_toArray, List.getElem_cons_zero, List.getElem_cons_succ, List.setIfInBounds_toArray, List.set_cons_zero, List.set_cons_succ]
                    refine wpAnyH_take (i := 9) (v := ?_) rfl (by kernel_rfl) (by kernel_rfl) (by kernel_rfl) (fun _ _ _ h => h) (Or.inl ⟨by rfl, ?_⟩) (by assumption) ?_
                    rotate_left
                    · (intro w' hSw; (try dsimp only at hSw); first | (go_simp; done) | (go_simp; with_reducible rfl))
                    try simp only [Act.put, List.getElem_toArray, List.getElem_cons_zero, List.getElem_cons_succ, List.setIfInBounds_toArray, List.set_cons_zero, List.set_cons_succ]
                    refine wpAnyH_take (i := 10) (v := ?_) rfl (by kernel_rfl) (by kernel_rfl) (by kernel_rfl) (fun _ _ _ h => h) (Or.inl ⟨by rfl, ?_⟩) (by assumption) ?_
                    rotate_left
                    · (intro w' hSw; (try dsimp only at hSw); first | (go_simp; done) | (go_simp; with_reducible rfl))
                    try simp only [Act.put, List.getElem_toArray, List.getElem_cons_zero, List.getElem_cons_succ, List.setIfInBounds_toArray, List.set_cons_zero, List.set_cons_succ]
                    refine wpAnyH_take (i := 11) (v := ?_) rfl (by kernel_rfl) (by kernel_rfl) (by kernel_rfl) (fun _ _ _ h => h) (Or.inl ⟨by rfl, ?_⟩) (by assumption) ?_
                    rotate_left
                    · (intro w' hSw; (try dsimp only at hSw); first | (go_simp; done) | (go_simp; with_reducible rfl))
                    try simp only [Act.put, List.getElem_toArray, List.getElem_cons_zero, List.getElem_cons_succ, List.setIfInBounds_toArray, List.set_cons_zero, List.set_cons_succ]
                    clear hHeld
                    have v0 := HRV.out.cell 0 _ rfl
                    have v1 := HRV.out.cell 1 _ rfl
                    have vf0 := HRV.out.free 0
                    have vf1 := HRV.out.free 1
                    have vl := HRV.out.lt
                    refine wpAnyH_ready (rs := [13]) (by kernel_rfl) (by simp) ?_
                    refine AllReadyH.cons rfl (fun K' hK => ?_) AllReadyH.nil
                    go_simp
                    have HSZ := Lib.hid ((HSY3.out.setCell (p := ⟨rv, 0, none⟩) (Or.inr HRB.out) (.int .i64 0)).setCell (p := ⟨rv, 1, none⟩) (Or.inr HRB.out) (.slice none 0 0))
                    refine hK.out _ _ (HSS.out _ HSZ.out) (fun hHeld => ?_)
                    clear hK K' hHeld v0 v1 vf0 vf1 vl HRV
                    try simp only [Act.put, List.getElem_toArray, List.getElem_cons_zero, List.getElem_cons_succ, List.setIfInBounds_toArray, List.set_cons_zero, List.set_cons_succ]
                    generalize (wy3.setCell ⟨rv, 0, none⟩ (.int .i64 0)).setCell ⟨rv, 1, none⟩ (.slice none 0 0) = wz at HSZ ⊢
                    have hHeld : (Turns (fun _ => False) w9 wz ∧ (convert 27 9 (.slice a n cap)).run Try.prog wz = .ok (.string ts) wz) := HSS.out _ HSZ.out
                    refine wpAnyH_take (i := 14) (v := ?_) rfl (by kernel_rfl) (by kernel_rfl) (by kernel_rfl) (fun _ _ _ h => h) (Or.inl ⟨by rfl, ?_⟩) (by assumption) ?_
                    rotate_left
                    · (intro w' hSw; (try dsimp only at hSw); first | (go_simp; done) | (go_simp; with_reducible rfl))
                    try simp only [Act.put, List.getElem_toArray, List.getElem_cons_zero, List.getElem_cons_succ, List.setIfInBounds_toArray, List.set_cons_zero, List.set_cons_succ]
                    refine wpAnyH_take (i := 15) (v := ?_) rfl (by kernel_rfl) (by kernel_rfl) (by kernel_rfl) (fun _ _ _ h => h) (Or.inl ⟨by rfl, ?_⟩) (by assumption) ?_
                    rotate_left
                    · (intro w' hSw; (try dsimp only at hSw); first | (go_simp; done) | (go_simp; with_reducible rfl))
                    try simp only [Act.put, List.getElem_toArray, List.getElem_cons_zero, List.getElem_cons_succ, List.setIfInBounds_toArray, List.set_cons_zero, List.set_cons_succ]
                    clear hHeld
                    refine wpAnyH_done (by kernel_rfl) ?_ _
                    have HT10 := Lib.hid (HT9.out.then HSZ.out)
                    clear HSY3 HSZ HSS HRB
                    (try clear HSY)
                    (try clear HSY1)
                    (try clear HSY2)
                    clear HT9
                    clear q0 q1 q2 q3 q4 q5 q6 q7
                    go_wp2_with fail
                    refine (told_any _).mono ?_
                    rintro e w11 ⟨rfl, T11⟩
                    have HT11 := Lib.hid (HT10.out.then T11)
                    clear T11
                    go_wp2_with fail
                    go_ret
                    exact ⟨rfl, below_of (HT1.out.then HT11.out)⟩
                · skip
                  have HRV : Hid (Row (wy.alloc (.cells #[.int .i64 0, .slice none 0 0] 24)) wy.heap.size 24 [.int .i64 0, .slice none 0 0]) := Lib.hid (heap_new rfl)
                  have HRB : Hid (w9.heap.size ≤ wy.heap.size) := Lib.hid HSY.out.size
                  have HSY1 := Lib.hid (HSY.out.alloc (.cells #[.int .i64 0, .slice none 0 0] 24))
                  go_simp
                  refine hK.out _ _ (HSS.out _ HSY1.out) (fun hHeld => ?_)
                  clear hK K' hHeld
                  try simp only [Act.put, List.getElem_toArray, List.getElem_cons_zero, List.getElem_cons_succ, List.setIfInBounds_toArray, List.set_cons_zero, List.set_cons_succ]
                  generalize wy.alloc (.cells #[.int .i64 0, .slice none 0 0] 24) = wy1 at HRV HSY1 ⊢
                  generalize wy.heap.size = rv at HRV HRB ⊢
                  refine wpAnyH_ready (rs := [6]) (by kernel_rfl) (by simp) ?_
                  refine AllReadyH.cons rfl (fun K' hK => ?_) AllReadyH.nil
                  obtain ⟨ab, cb, wy2, hcv, IBb, Tb⟩ := bytes_of x4 wy1
                  have HIBb := Lib.hid IBb
                  have HSY2 := Lib.hid (HSY1.out.then Tb)
                  have HRV2 := Lib.hid (HRV.out.later Tb (fun x => x))
                  clear HRV
                  clear IBb Tb
                  go_simp
                  clear hcv
                  refine hK.out _ _ (HSS.out _ HSY2.out) (fun hHeld => ?_)
                  clear hK K' hHeld
                  try simp only [Act.put, List.getElem_toArray, List.getElem_cons_zero, List.getElem_cons_succ, List.setIfInBounds_toArray, List.set_cons_zero, List.set_cons_succ]
                  have HRV := HRV2
                  clear HRV2
                  refine wpAnyH_ready (rs := [7]) (by kernel_rfl) (by simp) ?_
                  refine AllReadyH.cons rfl (fun K' hK => ?_) AllReadyH.nil
                  go_simp
                  refine (dec_bad HIBb.out (by omega) HDd.out).mono ?_
                  rintro e wy3 ⟨rfl, Tb⟩
                  have HSY3 := Lib.hid (HSY2.out.then Tb)
                  have HRV2 := Lib.hid (HRV.out.later Tb (fun x => x))
                  clear HRV
                  clear Tb HIBb
                  refine hK.out _ _ (HSS.out _ HSY3.out) (fun hHeld => ?_)
                  clear hK K' hHeld
                  try simp only [Act.put, List.getElem_toArray, List.getElem_cons_zero, List.getElem_cons_succ, List.setIfInBounds_toArray, List.set_cons_zero, List.set_cons_succ]
                  have HRV := HRV2
                  clear HRV2
                  have hHeld : (Turns (fun _ => False) w9 wy3 ∧ (convert 27 9 (.slice a n cap)).run Try.prog wy3 = .ok (.string ts) wy3) := HSS.out _ HSY3.out
                  refine wpAnyH_take (i := 8) (v := ?_) rfl (by kernel_rfl) (by kernel_rfl) (by kernel_rfl) (fun _ _ _ h => h) (Or.inl ⟨by rfl, ?_⟩) (by assumption) ?_
                  rotate_left
                  · (intro w' hSw; (try dsimp only at hSw); first | (go_simp; done) | (go_simp; with_reducible rfl))
                  try simp only [Act.put, List.getElem_toArray, List.getElem_cons_zero, List.getElem_cons_succ, List.setIfInBounds_toArray, List.set_cons_zero, List.set_cons_succ]
                  refine wpAnyH_take (i := 9) (v := ?_) rfl (by kernel_rfl) (by kernel_rfl) (by kernel_rfl) (fun _ _ _ h => h) (Or.inl ⟨by rfl, ?_⟩) (by assumption) ?_
                  rotate_left
                  · (intro w' hSw; (try dsimp only at hSw); first | (go_simp; done) | (go_simp; with_reducible rfl))
                  try simp only [Act.put, List.getElem_toArray, List.getElem_cons_zero, List.getElem_cons_succ, List.setIfInBounds_toArray, List.set_cons_zero, List.set_cons_succ]
                  refine wpAnyH_take (i := 10) (v := ?_) rfl (by kernel_rfl) (by kernel_rfl) (by kernel_rfl) (fun _ _ _ h => h) (Or.inl ⟨by rfl, ?_⟩) (by assumption) ?_
                  rotate_left
                  · (intro w' hSw; (try dsimp only at hSw); first | (go_simp; done) | (go_simp; with_reducible rfl))
                  try simp only [Act.put, List.getElem_toArray, List.getElem_cons_zero, List.getElem_cons_succ, List.setIfInBounds_toArray, List.set_cons_zero, List.set_cons_succ]
                  refine wpAnyH_take (i := 11) (v := ?_) rfl (by kernel_rfl) (by kernel_rfl) (by kernel_rfl) (fun _ _ _ h => h) (Or.inl ⟨by rfl, ?_⟩) (by assumption) ?_
                  rotate_left
                  · (intro w' hSw; (try dsimp only at hSw); first | (go_simp; done) | (go_simp; with_reducible rfl))
                  try simp only [Act.put, List.getElem_toArray, List.getElem_cons_zero, List.getElem_cons_succ, List.setIfInBounds_toArray, List.set_cons_zero, List.set_cons_succ]
                  clear hHeld
                  have v0 := HRV.out.cell 0 _ rfl
                  have v1 := HRV.out.cell 1 _ rfl
                  have vf0 := HRV.out.free 0
                  have vf1 := HRV.out.free 1
                  have vl := HRV.out.lt
                  refine wpAnyH_ready (rs := [13]) (by kernel_rfl) (by simp) ?_
                  refine AllReadyH.cons rfl (fun K' hK => ?_) AllReadyH.nil
                  go_simp
                  have HSZ := Lib.hid ((HSY3.out.setCell (p := ⟨rv, 0, none⟩) (Or.inr HRB.out) (.int .i64 0)).setCell (p := ⟨rv, 1, none⟩) (Or.inr HRB.out) (.slice none 0 0))
                  refine hK.out _ _ (HSS.out _ HSZ.out) (fun hHeld => ?_)
                  clear hK K' hHeld v0 v1 vf0 vf1 vl HRV
                  try simp only [Act.put, List.getElem_toArray, List.getElem_cons_zero, List.getElem_cons_succ, List.setIfInBounds_toArray, List.set_cons_zero, List.set_cons_succ]
                  generalize (wy3.setCell ⟨rv, 0, none⟩ (.int .i64 0)).setCell ⟨rv, 1, none⟩ (.slice none 0 0) = wz at HSZ ⊢
                  have hHeld : (Turns (fun _ => False) w9 wz ∧ (convert 27 9 (.slice a n cap)).run Try.prog wz = .ok (.string ts) wz) := HSS.out _ HSZ.out
                  refine wpAnyH_take (i := 14) (v := ?_) rfl (by kernel_rfl) (by kernel_rfl) (by kernel_rfl) (fun _ _ _ h => h) (Or.inl ⟨by rfl, ?_⟩) (by assumption) ?_
                  rotate_left
                  · (intro w' hSw; (try dsimp only at hSw); first | (go_simp; done) | (go_simp; with_reducible rfl))
                  try simp only [Act.put, List.getElem_toArray, List.getElem_cons_zero, List.getElem_cons_succ, List.setIfInBounds_toArray, List.set_cons_zero, List.set_cons_succ]
                  refine wpAnyH_take (i := 15) (v := ?_) rfl (by kernel_rfl) (by kernel_rfl) (by kernel_rfl) (fun _ _ _ h => h) (Or.inl ⟨by rfl, ?_⟩) (by assumption) ?_
                  rotate_left
                  · (intro w' hSw; (try dsimp only at hSw); first | (go_simp; done) | (go_simp; with_reducible rfl))
                  try simp only [Act.put, List.getElem_toArray, List.getElem_cons_zero, List.getElem_cons_succ, List.setIfInBounds_toArray, List.set_cons_zero, List.set_cons_succ]
                  clear hHeld
                  refine wpAnyH_done (by kernel_rfl) ?_ _
                  have HT10 := Lib.hid (HT9.out.then HSZ.out)
                  clear HSY3 HSZ HSS HRB
                  (try clear HSY)
                  (try clear HSY1)
                  (try clear HSY2)
                  clear HT9
                  clear q0 q1 q2 q3 q4 q5 q6 q7
                  go_wp2_with fail
                  refine (told_any _).mono ?_
                  rintro e w11 ⟨rfl, T11⟩
                  have HT11 := Lib.hid (HT10.out.then T11)
                  clear T11
                  go_wp2_with fail
                  go_ret
                  exact ⟨rfl, below_of (HT1.out.then HT11.out)⟩
              · skip
                have HRV : Hid (Row (wy1.alloc (.cells #[.int .i64 0, .slice none 0 0] 24)) wy1.heap.size 24 [.int .i64 0, .slice none 0 0]) := Lib.hid (heap_new rfl)
                have HRB : Hid (w7.heap.size ≤ wy1.heap.size) := Lib.hid HSY1.out.size
                have HSY2 := Lib.hid (HSY1.out.alloc (.cells #[.int .i64 0, .slice none 0 0] 24))
                have HIBc := Lib.hid (HIBb.out.later ((Turns.refl (fun _ => False) wy1).alloc (.cells #[.int .i64 0, .slice none 0 0] 24)) (fun _ _ _ x => x))
                clear HIBb
                go_simp
                refine hK.out _ _ (HSS.out _ HSY2.out) (fun hHeld => ?_)
                clear hK K' hHeld
                try simp only [Act.put, List.getElem_toArray, List.getElem_cons_zero, List.getElem_cons_succ, List.setIfInBounds_toArray, List.set_cons_zero, List.set_cons_succ]
                generalize wy1.alloc (.cells #[.int .i64 0, .slice none 0 0] 24) = wy2 at HRV HSY2 HIBc ⊢
                generalize wy1.heap.size = rv at HRV HRB ⊢
                have HIBb := HIBc
                clear HIBc
                refine wpAnyH_ready (rs := [8]) (by kernel_rfl) (by simp) ?_
                refine AllReadyH.cons rfl (fun K' hK => ?_) AllReadyH.nil
                go_simp
                refine (dec_bad HIBb.out (by omega) HDb.out).mono ?_
                rintro e wy3 ⟨rfl, Tb⟩
                have HSY3 := Lib.hid (HSY2.out.then Tb)
                have HRV2 := Lib.hid (HRV.out.later Tb (fun x => x))
                clear HRV
                clear Tb HIBb
                refine hK.out _ _ (HSS.out _ HSY3.out) (fun hHeld => ?_)
                clear hK K' hHeld
                try simp only [Act.put, List.getElem_toArray, List.getElem_cons_zero, List.getElem_cons_succ, List.setIfInBounds_toArray, List.set_cons_zero, List.set_cons_succ]
                have HRV := HRV2
                clear HRV2
                have hHeld : (Turns (fun _ => False) w7 wy3 ∧ (convert 27 9 (.slice a n cap)).run Try.prog wy3 = .ok (.string ts) wy3) := HSS.out _ HSY3.out
                refine wpAnyH_take (i := 9) (v := ?_) rfl (by kernel_rfl) (by kernel_rfl) (by kernel_rfl) (fun _ _ _ h => h) (Or.inl ⟨by rfl, ?_⟩) (by assumption) ?_
                rotate_left
                · (intro w' hSw; (try dsimp only at hSw); first | (go_simp; done) | (go_simp; with_reducible rfl))
                try simp only [Act.put, List.getElem_toArray, List.getElem_cons_zero, List.getElem_cons_succ, List.setIfInBounds_toArray, List.set_cons_zero, List.set_cons_succ]
                refine wpAnyH_take (i := 10) (v := ?_) rfl (by kernel_rfl) (by kernel_rfl) (by kernel_rfl) (fun _ _ _ h => h) (Or.inl ⟨by rfl, ?_⟩) (by assumption) ?_
                rotate_left
                · (intro w' hSw; (try dsimp only at hSw); first | (go_simp; done) | (go_simp; with_reducible rfl))
                try simp only [Act.put, List.getElem_toArray, List.getElem_cons_zero, List.getElem_cons_succ, List.setIfInBounds_toArray, List.set_cons_zero, List.set_cons_succ]
                refine wpAnyH_take (i := 11) (v := ?_) rfl (by kernel_rfl) (by kernel_rfl) (by kernel_rfl) (fun _ _ _ h => h) (Or.inl ⟨by rfl, ?_⟩) (by assumption) ?_
                rotate_left
                · (intro w' hSw; (try dsimp only at hSw); first | (go_simp; done) | (go_simp; with_reducible rfl))
                try simp only [Act.put, List.getElem_toArray, List.getElem_cons_zero, List.getElem_cons_succ, List.setIfInBounds_toArray, List.set_cons_zero, List.set_cons_succ]
                refine wpAnyH_take (i := 12) (v := ?_) rfl (by kernel_rfl) (by kernel_rfl) (by kernel_rfl) (fun _ _ _ h => h) (Or.inl ⟨by rfl, ?_⟩) (by assumption) ?_
                rotate_left
                · (intro w' hSw; (try dsimp only at hSw); first | (go_simp; done) | (go_simp; with_reducible rfl))
                try simp only [Act.put, List.getElem_toArray, List.getElem_cons_zero, List.getElem_cons_succ, List.setIfInBounds_toArray, List.set_cons_zero, List.set_cons_succ]
                clear hHeld
                have v0 := HRV.out.cell 0 _ rfl
                have v1 := HRV.out.cell 1 _ rfl
                have vf0 := HRV.out.free 0
                have vf1 := HRV.out.free 1
                have vl := HRV.out.lt
                refine wpAnyH_ready (rs := [14]) (by kernel_rfl) (by simp) ?_
                refine AllReadyH.cons rfl (fun K' hK => ?_) AllReadyH.nil
                go_simp
                have HSZ := Lib.hid ((HSY3.out.setCell (p := ⟨rv, 0, none⟩) (Or.inr HRB.out) (.int .i64 0)).setCell (p := ⟨rv, 1, none⟩) (Or.inr HRB.out) (.slice none 0 0))
                refine hK.out _ _ (HSS.out _ HSZ.out) (fun hHeld => ?_)
                clear hK K' hHeld v0 v1 vf0 vf1 vl HRV
                try simp only [Act.put, List.getElem_toArray, List.getElem_cons_zero, List.getElem_cons_succ, List.setIfInBounds_toArray, List.set_cons_zero, List.set_cons_succ]
                generalize (wy3.setCell ⟨rv, 0, none⟩ (.int .i64 0)).setCell ⟨rv, 1, none⟩ (.slice none 0 0) = wz at HSZ ⊢
                have hHeld : (Turns (fun _ => False) w7 wz ∧ (convert 27 9 (.slice a n cap)).run Try.prog wz = .ok (.string ts) wz) := HSS.out _ HSZ.out
                refine wpAnyH_take (i := 15) (v := ?_) rfl (by kernel_rfl) (by kernel_rfl) (by kernel_rfl) (fun _ _ _ h => h) (Or.inl ⟨by rfl, ?_⟩) (by assumption) ?_
                rotate_left
                · (intro w' hSw; (try dsimp only at hSw); first | (go_simp; done) | (go_simp; with_reducible rfl))
                try simp only [Act.put, List.getElem_toArray, List.getElem_cons_zero, List.getElem_cons_succ, List.setIfInBounds_toArray, List.set_cons_zero, List.set_cons_succ]
                refine wpAnyH_take (i := 16) (v := ?_) rfl (by kernel_rfl) (by kernel_rfl) (by kernel_rfl) (fun _ _ _ h => h) (Or.inl ⟨by rfl, ?_⟩) (by assumption) ?_
                rotate_left
                · (intro w' hSw; (try dsimp only at hSw); first | (go_simp; done) | (go_simp; with_reducible rfl))
                try simp only [Act.put, List.getElem_toArray, List.getElem_cons_zero, List.getElem_cons_succ, List.setIfInBounds_toArray, List.set_cons_zero, List.set_cons_succ]
                clear hHeld
                refine wpAnyH_done (by kernel_rfl) ?_ _
                have HT8 := Lib.hid (HT7.out.then HSZ.out)
                clear HSY3 HSZ HSS HRB
                (try clear HSY)
                (try clear HSY1)
                (try clear HSY2)
                clear HT7
                have hx3 := Hx3.out
                have m1 : (1 : Int) ≤ (s.size : Int) := by omega
                have m2 : 1 ≤ s.size := by omega
                have m3 : ¬ 9223372036854775807 < 1 + (s.size - 1) := by omega
                obtain ⟨a8, c8, w8, hcv, IB8, T8⟩ := bytes_of x3 wz
                have HIB8 := Lib.hid IB8
                have HT8' := Lib.hid (HT8.out.then T8)
                clear IB8 T8
                go_wp2_with fail
                refine (dec_bad HIB8.out (by omega) HDc.out).mono ?_
                rintro e wx ⟨rfl, Tx⟩
                have HTx := Lib.hid (HT8'.out.then Tx)
                clear Tx hcv hx3 m1 m2 m3 HIB8 HT8' HT8
                go_wp2_with fail
                have HT9 := Lib.hid (HTx.out.alloc (.cells #[.int .i64 0, .slice none 0 0] 24))
                generalize wx.alloc (.cells #[.int .i64 0, .slice none 0 0] 24) = w9 at HT9 ⊢
                generalize wx.heap.size = b9
                clear HTx
                have HSS : Hid (∀ w', Turns (fun _ => False) w9 w' → (Turns (fun _ => False) w9 w' ∧ (convert 27 9 (.slice a n cap)).run Try.prog w' = .ok (.string ts) w')) := Lib.hid (fun w' t => ⟨t, HST.out w' (HT9.out.then t)⟩)
                have HSY := Lib.hid ((Turns.refl (fun _ => False) w9).drew)
                refine wp_region_held_drew (S := (fun w' => (Turns (fun _ => False) w9 w' ∧ (convert 27 9 (.slice a n cap)).run Try.prog w' = .ok (.string ts) w'))) (by kernel_rfl) ?_ (fun hHeld => ?_)
                · exact HSS.out _ HSY.out
                generalize w9.drew = wy at HSY hHeld ⊢
                have hx4 := Hx4.out
                have q0 : ¬ 9223372036854775807 < 1 + 1 := by omega
                have q1 : ¬ 9223372036854775807 < 1 + 1 + (s.size - 2) := by omega
                have q2 : (2 : Int) ≤ (s.size : Int) := by omega
                have q3 : (1 : Int) ≤ (s.size : Int) := by omega
                have q4 : 2 ≤ s.size := by omega
                have q5 : 1 ≤ s.size := by omega
                have q6 : min 1 s.size = 1 := by omega
                have q7 : ¬ 9223372036854775807 < s.size := by omega
                refine wpAnyH_take (i := 0) (v := ?_) rfl (by kernel_rfl) (by kernel_rfl) (by kernel_rfl) (fun _ _ _ h => h) (Or.inl ⟨by rfl, ?_⟩) (by assumption) ?_
                rotate_left
                · (intro w' hSw; (try dsimp only at hSw); first | (go_simp; done) | (go_simp; with_reducible rfl))
                try simp only [Act.put, List.getElem_toArray, List.getElem_cons_zero, List.getElem_cons_succ, List.setIfInBounds_toArray, List.set_cons_zero, List.set_cons_succ]
                refine wpAnyH_take (i := 1) (v := ?_) rfl (by kernel_rfl) (by kernel_rfl) (by kernel_rfl) (fun _ _ _ h => h) (Or.inl ⟨by rfl, ?_⟩) (by assumption) ?_
                rotate_left
                · (intro w' hSw; (try dsimp only at hSw); first | (go_simp; done) | (go_simp; with_reducible rfl))
                try simp only [Act.put, List.getElem_toArray, List.getElem_cons_zero, List.getElem_cons_succ, List.setIfInBounds_toArray, List.set_cons_zero, List.set_cons_succ]
                refine wpAnyH_take (i := 2) (v := ?_) rfl (by kernel_rfl) (by kernel_rfl) (by kernel_rfl) (fun _ _ _ h => h) (Or.inl ⟨by rfl, ?_⟩) (by assumption) ?_
                rotate_left
                · (intro w' hSw; (try dsimp only at hSw); first | (go_simp; done) | (go_simp; with_reducible rfl))
                try simp only [Act.put, List.getElem_toArray, List.getElem_cons_zero, List.getElem_cons_succ, List.setIfInBounds_toArray, List.set_cons_zero, List.set_cons_succ]
                refine wpAnyH_take (i := 3) (v := ?_) rfl (by kernel_rfl) (by kernel_rfl) (by kernel_rfl) (fun _ _ _ h => h) (Or.inl ⟨by rfl, ?_⟩) (by assumption) ?_
                rotate_left
                · (intro w' hSw; (try dsimp only at hSw); first | (go_simp; done) | (go_simp; with_reducible rfl))
                try simp only [Act.put, List.getElem_toArray, List.getElem_cons_zero, List.getElem_cons_succ, List.setIfInBounds_toArray, List.set_cons_zero, List.set_cons_succ]
                refine wpAnyH_take (i := 4) (v := ?_) rfl (by kernel_rfl) (by kernel_rfl) (by kernel_rfl) (fun _ _ _ h => h) (Or.inl ⟨by rfl, ?_⟩) (by assumption) ?_
                rotate_left
                · (intro w' hSw; (try dsimp only at hSw); first | (go_simp; done) | (go_simp; with_reducible rfl))
                try simp only [Act.put, List.getElem_toArray, List.getElem_cons_zero, List.getElem_cons_succ, List.setIfInBounds_toArray, List.set_cons_zero, List.set_cons_succ]
                refine wpAnyH_take (i := 5) (v := ?_) rfl (by kernel_rfl) (by kernel_rfl) (by kernel_rfl) (fun _ _ _ h => h) (Or.inl ⟨by rfl, ?_⟩) (by assumption) ?_
                rotate_left
                · (intro w' hSw; (try dsimp only at hSw); first | (go_simp; done) | (go_simp; with_reducible rfl))
                try simp only [Act.put, List.getElem_toArray, List.getElem_cons_zero, List.getElem_cons_succ, List.setIfInBounds_toArray, List.set_cons_zero, List.set_cons_succ]
                clear hHeld
                clear hx4
                refine wpAnyH_ready (rs := [6, 12]) (by kernel_rfl) (by simp) ?_
                refine AllReadyH.cons rfl (fun K' hK => ?_) (AllReadyH.cons rfl (fun K' hK => ?_) AllReadyH.nil)
                · skip
                  obtain ⟨ab, cb, wy1, hcv, IBb, Tb⟩ := bytes_of x4 wy
                  have HIBb := Lib.hid IBb
                  have HSY1 := Lib.hid (HSY.out.then Tb)
                  clear IBb Tb
                  go_simp
                  clear hcv
                  refine hK.out _ _ (HSS.out _ HSY1.out) (fun hHeld => ?_)
                  clear hK K' hHeld
                  try simp only [Act.put, List.getElem_toArray, List.getElem_cons_zero, List.getElem_cons_succ, List.setIfInBounds_toArray, List.set_cons_zero, List.set_cons_succ]
                  refine wpAnyH_ready (rs := [7, 12]) (by kernel_rfl) (by simp) ?_
                  refine AllReadyH.cons rfl (fun K' hK => ?_) (AllReadyH.cons rfl (fun K' hK => ?_) AllReadyH.nil)
                  · skip
                    go_simp
                    refine (dec_bad HIBb.out (by omega) HDd.out).mono ?_
                    rintro e wy2 ⟨rfl, Tb⟩
                    have HSY2 := Lib.hid (HSY1.out.then Tb)
                    clear Tb HIBb
                    refine hK.out _ _ (HSS.out _ HSY2.out) (fun hHeld => ?_)
                    clear hK K' hHeld
                    try simp only [Act.put, List.getElem_toArray, List.getElem_cons_zero, List.getElem_cons_succ, List.setIfInBounds_toArray, List.set_cons_zero, List.set_cons_succ]
                    have hHeld : (Turns (fun _ => False) w9 wy2 ∧ (convert 27 9 (.slice a n cap)).run Try.prog wy2 = .ok (.string ts) wy2) := HSS.out _ HSY2.out
                    refine wpAnyH_take (i := 8) (v := ?_) rfl (by kernel_rfl) (by kernel_rfl) (by kernel_rfl) (fun _ _ _ h => h) (Or.inl ⟨by rfl, ?_⟩) (by assumption) ?_
                    rotate_left
                    · (intro w' hSw; (try dsimp only at hSw); first | (go_simp; done) | (go_simp; with_reducible rfl))
                    try simp only [Act.put, List.getElem_toArray, List.getElem_cons_zero, List.getElem_cons_succ, List.setIfInBounds_toArray, List.set_cons_zero, List.set_cons_succ]
                    refine wpAnyH_take (i := 9) (v := ?_) rfl (by kernel_rfl) (by kernel_rfl) (by kernel_rfl) (fun _ _ _ h => h) (Or.inl ⟨by rfl, ?_⟩) (by assumption) ?_
                    rotate_left
                    · (intro w' hSw; (try dsimp only at hSw); first | (go_simp; done) | (go_simp; with_reducible rfl))
                    try simp only [Act.put, List.getElem_toArray, List.getElem_cons_zero, List.getElem_cons_succ, List.setIfInBounds_toArray, List.set_cons_zero, List.set_cons_succ]
                    refine wpAnyH_take (i := 10) (v := ?_) rfl (by kernel_rfl) (by kernel_rfl) (by kernel_rfl) (fun _ _ _ h => h) (Or.inl ⟨by rfl, ?_⟩) (by assumption) ?_
                    rotate_left
                    · (intro w' hSw; (try dsimp only at hSw); first | (go_simp; done) | (go_simp; with_reducible rfl))
                    try simp only [Act.put, List.getElem_toArray, List.getElem_cons_zero, List.getElem_cons_succ, List.setIfInBounds_toArray, List.set_cons_zero, List.set_cons_succ]
                    refine wpAnyH_take (i := 11) (v := ?_) rfl (by kernel_rfl) (by kernel_rfl) (by kernel_rfl) (fun _ _ _ h => h) (Or.inl ⟨by rfl, ?_⟩) (by assumption) ?_
                    rotate_left
                    · (intro w' hSw; (try dsimp only at hSw); first | (go_simp; done) | (go_simp; with_reducible rfl))
                    try simp only [Act.put, List.getElem_toArray, List.getElem_cons_zero, List.getElem_cons_succ, List.setIfInBounds_toArray, List.set_cons_zero, List.set_cons_succ]
                    clear hHeld
                    refine wpAnyH_ready (rs := [12]) (by kernel_rfl) (by simp) ?_
                    refine AllReadyH.cons rfl (fun K' hK => ?_) AllReadyH.nil
                    have HRV : Hid (Row (wy2.alloc (.cells #[.int .i64 0, .slice none 0 0] 24)) wy2.heap.size 24 [.int .i64 0, .slice none 0 0]) := Lib.hid (heap_new rfl)
                    have HRB : Hid (w9.heap.size ≤ wy2.heap.size) := Lib.hid HSY2.out.size
                    have HSY3 := Lib.hid (HSY2.out.alloc (.cells #[.int .i64 0, .slice none 0 0] 24))
                    go_simp
                    refine hK.out _ _ (HSS.out _ HSY3.out) (fun hHeld => ?_)
                    clear hK K' hHeld
                    try simp only [Act.put, List.getElem_toArray, List.getElem_cons_zero, List.getElem_cons_succ, List.setIfInBounds_toArray, List.set_cons_zero, List.set_cons_succ]
                    generalize wy2.alloc (.cells #[.int .i64 0, .slice none 0 0] 24) = wy3 at HRV HSY3 ⊢
                    generalize wy2.heap.size = rv at HRV HRB ⊢
                    have v0 := HRV.out.cell 0 _ rfl
                    have v1 := HRV.out.cell 1 _ rfl
                    have vf0 := HRV.out.free 0
                    have vf1 := HRV.out.free 1
                    have vl := HRV.out.lt
                    refine wpAnyH_ready (rs := [13]) (by kernel_rfl) (by simp) ?_
                    refine AllReadyH.cons rfl (fun K' hK => ?_) AllReadyH.nil
                    go_simp
                    have HSZ := Lib.hid ((HSY3.out.setCell (p := ⟨rv, 0, none⟩) (Or.inr HRB.out) (.int .i64 0)).setCell (p := ⟨rv, 1, none⟩) (Or.inr HRB.out) (.slice none 0 0))
                    refine hK.out _ _ (HSS.out _ HSZ.out) (fun hHeld => ?_)
                    clear hK K' hHeld v0 v1 vf0 vf1 vl HRV
                    try simp only [Act.put, List.getElem_toArray, List.getElem_cons_zero, List.getElem_cons_succ, List.setIfInBounds_toArray, List.set_cons_zero, List.set_cons_succ]
                    generalize (wy3.setCell ⟨rv, 0, none⟩ (.int .i64 0)).setCell ⟨rv, 1, none⟩ (.slice none 0 0) = wz at HSZ ⊢
                    have hHeld : (Turns (fun _ => False) w9 wz ∧ (convert 27 9 (.slice a n cap)).run Try.prog wz = .ok (.string ts) wz) := HSS.out _ HSZ.out
                    refine wpAnyH_take (i := 14) (v := ?_) rfl (by kernel_rfl) (by kernel_rfl) (by kernel_rfl) (fun _ _ _ h => h) (Or.inl ⟨by rfl, ?_⟩) (by assumption) ?_
                    rotate_left
                    · (intro w' hSw; (try dsimp only at hSw); first | (go_simp; done) | (go_simp; with_reducible rfl))
                    try simp only [Act.put, List.getElem_toArray, List.getElem_cons_zero, List.getElem_cons_succ, List.setIfInBounds_toArray, List.set_cons_zero, List.set_cons_succ]
                    refine wpAnyH_take (i := 15) (v := ?_) rfl (by kernel_rfl) (by kernel_rfl) (by kernel_rfl) (fun _ _ _ h => h) (Or.inl ⟨by rfl, ?_⟩) (by assumption) ?_
                    rotate_left
                    · (intro w' hSw; (try dsimp only at hSw); first | (go_simp; done) | (go_simp; with_reducible rfl))
                    try simp only [Act.put, List.getElem_toArray, List.getElem_cons_zero, List.getElem_cons_succ, List.setIfInBounds_toArray, List.set_cons_zero, List.set_cons_succ]
                    clear hHeld
                    refine wpAnyH_done (by kernel_rfl) ?_ _
                    have HT10 := Lib.hid (HT9.out.then HSZ.out)
                    clear HSY3 HSZ HSS HRB
                    (try clear HSY)
                    (try clear HSY1)
                    (try clear HSY2)
                    clear HT9
                    clear q0 q1 q2 q3 q4 q5 q6 q7
                    go_wp2_with fail
                    refine (told_any _).mono ?_
                    rintro e w11 ⟨rfl, T11⟩
                    have HT11 := Lib.hid (HT10.out.then T11)
                    clear T11
                    go_wp2_with fail
                    go_ret
                    exact ⟨rfl, below_of (HT1.out.then HT11.out)⟩
                  · skip
                    have HRV : Hid (Row (wy1.alloc (.cells #[.int .i64 0, .slice none 0 0] 24)) wy1.heap.size 24 [.int .i64 0, .slice none 0 0]) := Lib.hid (heap_new rfl)
                    have HRB : Hid (w9.heap.size ≤ wy1.heap.size) := Lib.hid HSY1.out.size
                    have HSY2 := Lib.hid (HSY1.out.alloc (.cells #[.int .i64 0, .slice none 0 0] 24))
                    have HIBc := Lib.hid (HIBb.out.later ((Turns.refl (fun _ => False) wy1).alloc (.cells #[.int .i64 0, .slice none 0 0] 24)) (fun _ _ _ x => x))
                    clear HIBb
                    go_simp
                    refine hK.out _ _ (HSS.out _ HSY2.out) (fun hHeld => ?_)
                    clear hK K' hHeld
                    try simp only [Act.put, List.getElem_toArray, List.getElem_cons_zero, List.getElem_cons_succ, List.setIfInBounds_toArray, List.set_cons_zero, List.set_cons_succ]
                    generalize wy1.alloc (.cells #[.int .i64 0, .slice none 0 0] 24) = wy2 at HRV HSY2 HIBc ⊢
                    generalize wy1.heap.size = rv at HRV HRB ⊢
                    have HIBb := HIBc
                    clear HIBc
                    refine wpAnyH_ready (rs := [7]) (by kernel_rfl) (by simp) ?_
                    refine AllReadyH.cons rfl (fun K' hK => ?_) AllReadyH.nil
                    go_simp
                    refine (dec_bad HIBb.out (by omega) HDd.out).mono ?_
                    rintro e wy3 ⟨rfl, Tb⟩
                    have HSY3 := Lib.hid (HSY2.out.then Tb)
                    have HRV2 := Lib.hid (HRV.out.later Tb (fun x => x))
                    clear HRV
                    clear Tb HIBb
                    refine hK.out _ _ (HSS.out _ HSY3.out) (fun hHeld => ?_)
                    clear hK K' hHeld
                    try simp only [Act.put, List.getElem_toArray, List.getElem_cons_zero, List.getElem_cons_succ, List.setIfInBounds_toArray, List.set_cons_zero, List.set_cons_succ]
                    have HRV := HRV2
                    clear HRV2
                    have hHeld : (Turns (fun _ => False) w9 wy3 ∧ (convert 27 9 (.slice a n cap)).run Try.prog wy3 = .ok (.string ts) wy3) := HSS.out _ HSY3.out
                    refine wpAnyH_take (i := 8) (v := ?_) rfl (by kernel_rfl) (by kernel_rfl) (by kernel_rfl) (fun _ _ _ h => h) (Or.inl ⟨by rfl, ?_⟩) (by assumption) ?_
                    rotate_left
                    · (intro w' hSw; (try dsimp only at hSw); first | (go_simp; done) | (go_simp; with_reducible rfl))
                    try simp only [Act.put, List.getElem_toArray, List.getElem_cons_zero, List.getElem_cons_succ, List.setIfInBounds_toArray, List.set_cons_zero, List.set_cons_succ]
                    refine wpAnyH_take (i := 9) (v := ?_) rfl (by kernel_rfl) (by kernel_rfl) (by kernel_rfl) (fun _ _ _ h => h) (Or.inl ⟨by rfl, ?_⟩) (by assumption) ?_
                    rotate_left
                    · (intro w' hSw; (try dsimp only at hSw); first | (go_simp; done) | (go_simp; with_reducible rfl))
                    try simp only [Act.put, List.getElem_toArray, List.getElem_cons_zero, List.getElem_cons_succ, List.setIfInBounds_toArray, List.set_cons_zero, List.set_cons_succ]
                    refine wpAnyH_take (i := 10) (v := ?_) rfl (by kernel_rfl) (by kernel_rfl) (by kernel_rfl) (fun _ _ _ h => h) (Or.inl ⟨by rfl, ?_⟩) (by assumption) ?_
                    rotate_left
                    · (intro w' hSw; (try dsimp only at hSw); first | (go_simp; done) | (go_simp; with_reducible rfl))
                    try simp only [Act.put, List.getElem_toArray, List.getElem_cons_zero, List.getElem_cons_succ, List.setIfInBounds_toArray, List.set_cons_zero, List.set_cons_succ]
                    refine wpAnyH_take (i := 11) (v := ?_) rfl (by kernel_rfl) (by kernel_rfl) (by kernel_rfl) (fun _ _ _ h => h) (Or.inl ⟨by rfl, ?_⟩) (by assumption) ?_
                    rotate_left
                    · (intro w' hSw; (try dsimp only at hSw); first | (go_simp; done) | (go_simp; with_reducible rfl))
                    try simp only [Act.put, List.getElem_toArray, List.getElem_cons_zero, List.getElem_cons_succ, List.setIfInBounds_toArray, List.set_cons_zero, List.set_cons_succ]
                    clear hHeld
                    have v0 := HRV.out.cell 0 _ rfl
                    have v1 := HRV.out.cell 1 _ rfl
                    have vf0 := HRV.out.free 0
                    have vf1 := HRV.out.free 1
                    have vl := HRV.out.lt
                    refine wpAnyH_ready (rs := [13]) (by kernel_rfl) (by simp) ?_
                    refine AllReadyH.cons rfl (fun K' hK => ?_) AllReadyH.nil
                    go_simp
                    have HSZ := Lib.hid ((HSY3.out.setCell (p := ⟨rv, 0, none⟩) (Or.inr HRB.out) (.int .i64 0)).setCell (p := ⟨rv, 1, none⟩) (Or.inr HRB.out) (.slice none 0 0))
                    refine hK.out _ _ (HSS.out _ HSZ.out) (fun hHeld => ?_)
                    clear hK K' hHeld v0 v1 vf0 vf1 vl HRV
                    try simp only [Act.put, List.getElem_toArray, List.getElem_cons_zero, List.getElem_cons_succ, List.setIfInBounds_toArray, List.set_cons_zero, List.set_cons_succ]
                    generalize (wy3.setCell ⟨rv, 0, none⟩ (.int .i64 0)).setCell ⟨rv, 1, none⟩ (.slice none 0 0) = wz at HSZ ⊢
                    have hHeld : (Turns (fun _ => False) w9 wz ∧ (convert 27 9 (.slice a n cap)).run Try.prog wz = .ok (.string ts) wz) := HSS.out _ HSZ.out
                    refine wpAnyH_take (i := 14) (v := ?_) rfl (by kernel_rfl) (by kernel_rfl) (by kernel_rfl) (fun _ _ _ h => h) (Or.inl ⟨by rfl, ?_⟩) (by assumption) ?_
                    rotate_left
                    · (intro w' hSw; (try dsimp only at hSw); first | (go_simp; done) | (go_simp; with_reducible rfl))
                    try simp only [Act.put, List.getElem_toArray, List.getElem_cons_zero, List.getElem_cons_succ, List.setIfInBounds_toArray, List.set_cons_zero, List.set_cons_succ]
                    refine wpAnyH_take (i := 15) (v := ?_) rfl (by kernel_rfl) (by kernel_rfl) (by kernel_rfl) (fun _ _ _ h => h) (Or.inl ⟨by rfl, ?_⟩) (by assumption) ?_
                    rotate_left
                    · (intro w' hSw; (try dsimp only at hSw); first | (go_simp; done) | (go_simp; with_reducible rfl))
                    try simp only [Act.put, List.getElem_toArray, List.getElem_cons_zero, List.getElem_cons_succ, List.setIfInBounds_toArray, List.set_cons_zero, List.set_cons_succ]
                    clear hHeld
                    refine wpAnyH_done (by kernel_rfl) ?_ _
                    have HT10 := Lib.hid (HT9.out.then HSZ.out)
                    clear HSY3 HSZ HSS HRB
                    (try clear HSY)
                    (try clear HSY1)
                    (try clear HSY2)
                    clear HT9
                    clear q0 q1 q2 q3 q4 q5 q6 q7
                    go_wp2_with fail
                    refine (told_any _).mono ?_
                    rintro e w11 ⟨rfl, T11⟩
                    have HT11 := Lib.hid (HT10.out.then T11)
                    clear T11
                    go_wp2_with fail
                    go_ret
                    exact ⟨rfl, below_of (HT1.out.then HT11.out)⟩
                · skip
                  have HRV : Hid (Row (wy.alloc (.cells #[.int .i64 0, .slice none 0 0] 24)) wy.heap.size 24 [.int .i64 0, .slice none 0 0]) := Lib.hid (heap_new rfl)
                  have HRB : Hid (w9.heap.size ≤ wy.heap.size) := Lib.hid HSY.out.size
                  have HSY1 := Lib.hid (HSY.out.alloc (.cells #[.int .i64 0, .slice none 0 0] 24))
                  go_simp
                  refine hK.out _ _ (HSS.out _ HSY1.out) (fun hHeld => ?_)
                  clear hK K' hHeld
                  try simp only [Act.put, List.getElem_toArray, List.getElem_cons_zero, List.getElem_cons_succ, List.setIfInBounds_toArray, List.set_cons_zero, List.set_cons_succ]
                  generalize wy.alloc (.cells #[.int .i64 0, .slice none 0 0] 24) = wy1 at HRV HSY1 ⊢
                  generalize wy.heap.size = rv at HRV HRB ⊢
                  refine wpAnyH_ready (rs := [6]) (by kernel_rfl) (by simp) ?_
                  refine AllReadyH.cons rfl (fun K' hK => ?_) AllReadyH.nil
                  obtain ⟨ab, cb, wy2, hcv, IBb, Tb⟩ := bytes_of x4 wy1
                  have HIBb := Lib.hid IBb
                  have HSY2 := Lib.hid (HSY1.out.then Tb)
                  have HRV2 := Lib.hid (HRV.out.later Tb (fun x => x))
                  clear HRV
                  clear IBb Tb
                  go_simp
                  clear hcv
                  refine hK.out _ _ (HSS.out _ HSY2.out) (fun hHeld => ?_)
                  clear hK K' hHeld
                  try simp only [Act.put, List.getElem_toArray, List.getElem_cons_zero, List.getElem_cons_succ, List.setIfInBounds_toArray, List.set_cons_zero, List.set_cons_succ]
                  have HRV := HRV2
                  clear HRV2
                  refine wpAnyH_ready (rs := [7]) (by kernel_rfl) (by simp) ?_
                  refine AllReadyH.cons rfl (fun K' hK => ?_) AllReadyH.nil
                  go_simp
                  refine (dec_bad HIBb.out (by omega) HDd.out).mono ?_
                  rintro e wy3 ⟨rfl, Tb⟩
                  have HSY3 := Lib.hid (HSY2.out.then Tb)
                  have HRV2 := Lib.hid (HRV.out.later Tb (fun x => x))
                  clear HRV
                  clear Tb HIBb
                  refine hK.out _ _ (HSS.out _ HSY3.out) (fun hHeld => ?_)
                  clear hK K' hHeld
                  try simp only [Act.put, List.getElem_toArray, List.getElem_cons_zero, List.getElem_cons_succ, List.setIfInBounds_toArray, List.set_cons_zero, List.set_cons_succ]
                  have HRV := HRV2
                  clear HRV2
                  have hHeld : (Turns (fun _ => False) w9 wy3 ∧ (convert 27 9 (.slice a n cap)).run Try.prog wy3 = .ok (.string ts) wy3) := HSS.out _ HSY3.out
                  refine wpAnyH_take (i := 8) (v := ?_) rfl (by kernel_rfl) (by kernel_rfl) (by kernel_rfl) (fun _ _ _ h => h) (Or.inl ⟨by rfl, ?_⟩) (by assumption) ?_
                  rotate_left
                  · (intro w' hSw; (try dsimp only at hSw); first | (go_simp; done) | (go_simp; with_reducible rfl))
                  try simp only [Act.put, List.getElem_toArray, List.getElem_cons_zero, List.getElem_cons_succ, List.setIfInBounds_toArray, List.set_cons_zero, List.set_cons_succ]
                  refine wpAnyH_take (i := 9) (v := ?_) rfl (by kernel_rfl) (by kernel_rfl) (by kernel_rfl) (fun _ _ _ h => h) (Or.inl ⟨by rfl, ?_⟩) (by assumption) ?_
                  rotate_left
                  · (intro w' hSw; (try dsimp only at hSw); first | (go_simp; done) | (go_simp; with_reducible rfl))
                  try simp only [Act.put, List.getElem_toArray, List.getElem_cons_zero, List.getElem_cons_succ, List.setIfInBounds_toArray, List.set_cons_zero, List.set_cons_succ]
                  refine wpAnyH_take (i := 10) (v := ?_) rfl (by kernel_rfl) (by kernel_rfl) (by kernel_rfl) (fun _ _ _ h => h) (Or.inl ⟨by rfl, ?_⟩) (by assumption) ?_
                  rotate_left
                  · (intro w' hSw; (try dsimp only at hSw); first | (go_simp; done) | (go_simp; with_reducible rfl))
                  try simp only [Act.put, List.getElem_toArray, List.getElem_cons_zero, List.getElem_cons_succ, List.setIfInBounds_toArray, List.set_cons_zero, List.set_cons_succ]
                  refine wpAnyH_take (i := 11) (v := ?_) rfl (by kernel_rfl) (by kernel_rfl) (by kernel_rfl) (fun _ _ _ h => h) (Or.inl ⟨by rfl, ?_⟩) (by assumption) ?_
                  rotate_left
                  · (intro w' hSw; (try dsimp only at hSw); first | (go_simp; done) | (go_simp; with_reducible rfl))
                  try simp only [Act.put, List.getElem_toArray, List.getElem_cons_zero, List.getElem_cons_succ, List.setIfInBounds_toArray, List.set_cons_zero, List.set_cons_succ]
                  clear hHeld
                  have v0 := HRV.out.cell 0 _ rfl
                  have v1 := HRV.out.cell 1 _ rfl
                  have vf0 := HRV.out.free 0
                  have vf1 := HRV.out.free 1
                  have vl := HRV.out.lt
                  refine wpAnyH_ready (rs := [13]) (by kernel_rfl) (by simp) ?_
                  refine AllReadyH.cons rfl (fun K' hK => ?_) AllReadyH.nil
                  go_simp
                  have HSZ := Lib.hid ((HSY3.out.setCell (p := ⟨rv, 0, none⟩) (Or.inr HRB.out) (.int .i64 0)).setCell (p := ⟨rv, 1, none⟩) (Or.inr HRB.out) (.slice none 0 0))
                  refine hK.out _ _ (HSS.out _ HSZ.out) (fun hHeld => ?_)
                  clear hK K' hHeld v0 v1 vf0 vf1 vl HRV
                  try simp only [Act.put, List.getElem_toArray, List.getElem_cons_zero, List.getElem_cons_succ, List.setIfInBounds_toArray, List.set_cons_zero, List.set_cons_succ]
                  generalize (wy3.setCell ⟨rv, 0, none⟩ (.int .i64 0)).setCell ⟨rv, 1, none⟩ (.slice none 0 0) = wz at HSZ ⊢
                  have hHeld : (Turns (fun _ => False) w9 wz ∧ (convert 27 9 (.slice a n cap)).run Try.prog wz = .ok (.string ts) wz) := HSS.out _ HSZ.out
                  refine wpAnyH_take (i := 14) (v := ?_) rfl (by kernel_rfl) (by kernel_rfl) (by kernel_rfl) (fun _ _ _ h => h) (Or.inl ⟨by rfl, ?_⟩) (by assumption) ?_
                  rotate_left
                  · (intro w' hSw; (try dsimp only at hSw); first | (go_simp; done) | (go_simp; with_reducible rfl))
                  try simp only [Act.put, List.getElem_toArray, List.getElem_cons_zero, List.getElem_cons_succ, List.setIfInBounds_toArray, List.set_cons_zero, List.set_cons_succ]
                  refine wpAnyH_take (i := 15) (v := ?_) rfl (by kernel_rfl) (by kernel_rfl) (by kernel_rfl) (fun _ _ _ h => h) (Or.inl ⟨by rfl, ?_⟩) (by assumption) ?_
                  rotate_left
                  · (intro w' hSw; (try dsimp only at hSw); first | (go_simp; done) | (go_simp; with_reducible rfl))
                  try simp only [Act.put, List.getElem_toArray, List.getElem_cons_zero, List.getElem_cons_succ, List.setIfInBounds_toArray, List.set_cons_zero, List.set_cons_succ]
                  clear hHeld
                  refine wpAnyH_done (by kernel_rfl) ?_ _
                  have HT10 := Lib.hid (HT9.out.then HSZ.out)
                  clear HSY3 HSZ HSS HRB
                  (try clear HSY)
                  (try clear HSY1)
                  (try clear HSY2)
                  clear HT9
                  clear q0 q1 q2 q3 q4 q5 q6 q7
                  go_wp2_with fail
                  refine (told_any _).mono ?_
                  rintro e w11 ⟨rfl, T11⟩
                  have HT11 := Lib.hid (HT10.out.then T11)
                  clear T11
                  go_wp2_with fail
                  go_ret
                  exact ⟨rfl, below_of (HT1.out.then HT11.out)⟩
            · skip
              have HRV : Hid (Row (wy.alloc (.cells #[.int .i64 0, .slice none 0 0] 24)) wy.heap.size 24 [.int .i64 0, .slice none 0 0]) := Lib.hid (heap_new rfl)
              have HRB : Hid (w7.heap.size ≤ wy.heap.size) := Lib.hid HSY.out.size
              have HSY1 := Lib.hid (HSY.out.alloc (.cells #[.int .i64 0, .slice none 0 0] 24))
              go_simp
              refine hK.out _ _ (HSS.out _ HSY1.out) (fun hHeld => ?_)
              clear hK K' hHeld
              try simp only [Act.put, List.getElem_toArray, List.getElem_cons_zero, List.getElem_cons_succ, List.setIfInBounds_toArray, List.set_cons_zero, List.set_cons_succ]
              generalize wy.alloc (.cells #[.int .i64 0, .slice none 0 0] 24) = wy1 at HRV HSY1 ⊢
              generalize wy.heap.size = rv at HRV HRB ⊢
              refine wpAnyH_ready (rs := [7]) (by kernel_rfl) (by simp) ?_
              refine AllReadyH.cons rfl (fun K' hK => ?_) AllReadyH.nil
              obtain ⟨ab, cb, wy2, hcv, IBb, Tb⟩ := bytes_of tb wy1
              have HIBb := Lib.hid IBb
              have HSY2 := Lib.hid (HSY1.out.then Tb)
              have HRV2 := Lib.hid (HRV.out.later Tb (fun x => x))
              clear HRV
              clear IBb Tb
              go_simp
              clear hcv
              refine hK.out _ _ (HSS.out _ HSY2.out) (fun hHeld => ?_)
              clear hK K' hHeld
              try simp only [Act.put, List.getElem_toArray, List.getElem_cons_zero, List.getElem_cons_succ, List.setIfInBounds_toArray, List.set_cons_zero, List.set_cons_succ]
              have HRV := HRV2
              clear HRV2
              refine wpAnyH_ready (rs := [8]) (by kernel_rfl) (by simp) ?_
              refine AllReadyH.cons rfl (fun K' hK => ?_) AllReadyH.nil
              go_simp
              refine (dec_bad HIBb.out (by omega) HDb.out).mono ?_
              rintro e wy3 ⟨rfl, Tb⟩
              have HSY3 := Lib.hid (HSY2.out.then Tb)
              have HRV2 := Lib.hid (HRV.out.later Tb (fun x => x))
              clear HRV
              clear Tb HIBb
              refine hK.out _ _ (HSS.out _ HSY3.out) (fun hHeld => ?_)
              clear hK K' hHeld
              try simp only [Act.put, List.getElem_toArray, List.getElem_cons_zero, List.getElem_cons_succ, List.setIfInBounds_toArray, List.set_cons_zero, List.set_cons_succ]
              have HRV := HRV2
              clear HRV2
              have hHeld : (Turns (fun _ => False) w7 wy3 ∧ (convert 27 9 (.slice a n cap)).run Try.prog wy3 = .ok (.string ts) wy3) := HSS.out _ HSY3.out
              refine wpAnyH_take (i := 9) (v := ?_) rfl (by kernel_rfl) (by kernel_rfl) (by kernel_rfl) (fun _ _ _ h => h) (Or.inl ⟨by rfl, ?_⟩) (by assumption) ?_
              rotate_left
              · (intro w' hSw; (try dsimp only at hSw); first | (go_simp; done) | (go_simp; with_reducible rfl))
              try simp only [Act.put, List.getElem_toArray, List.getElem_cons_zero, List.getElem_cons_succ, List.setIfInBounds_toArray, List.set_cons_zero, List.set_cons_succ]
              refine wpAnyH_take (i := 10) (v := ?_) rfl (by kernel_rfl) (by kernel_rfl) (by kernel_rfl) (fun _ _ _ h => h) (Or.inl ⟨by rfl, ?_⟩) (by assumption) ?_
              rotate_left
              · (intro w' hSw; (try dsimp only at hSw); first | (go_simp; done) | (go_simp; with_reducible rfl))
              try simp only [Act.put, List.getElem_toArray, List.getElem_cons_zero, List.getElem_cons_succ, List.setIfInBounds_toArray, List.set_cons_zero, List.set_cons_succ]
              refine wpAnyH_take (i := 11) (v := ?_) rfl (by kernel_rfl) (by kernel_rfl) (by kernel_rfl) (fun _ _ _ h => h) (Or.inl ⟨by rfl, ?_⟩) (by assumption) ?_
              rotate_left
              · (intro w' hSw; (try dsimp only at hSw); first | (go_simp; done) | (go_simp; with_reducible rfl))
              try simp only [Act.put, List.getElem_toArray, List.getElem_cons_zero, List.getElem_cons_succ, List.setIfInBounds_toArray, List.set_cons_zero, List.set_cons_succ]
              refine wpAnyH_take (i := 12) (v := ?_) rfl (by kernel_rfl) (by kernel_rfl) (by kernel_rfl) (fun _ _ _ h => h) (Or.inl ⟨by rfl, ?_⟩) (by assumption) ?_
              rotate_left
              · (intro w' hSw; (try dsimp only at hSw); first | (go_simp; done) | (go_simp; with_reducible rfl))
              try simp only [Act.put, List.getElem_toArray, List.getElem_cons_zero, List.getElem_cons_succ, List.setIfInBounds_toArray, List.set_cons_zero, List.set_cons_succ]
              clear hHeld
              have v0 := HRV.out.cell 0 _ rfl
              have v1 := HRV.out.cell 1 _ rfl
              have vf0 := HRV.out.free 0
              have vf1 := HRV.out.free 1
              have vl := HRV.out.lt
              refine wpAnyH_ready (rs := [14]) (by kernel_rfl) (by simp) ?_
              refine AllReadyH.cons rfl (fun K' hK => ?_) AllReadyH.nil
              go_simp
              have HSZ := Lib.hid ((HSY3.out.setCell (p := ⟨rv, 0, none⟩) (Or.inr HRB.out) (.int .i64 0)).setCell (p := ⟨rv, 1, none⟩) (Or.inr HRB.out) (.slice none 0 0))
              refine hK.out _ _ (HSS.out _ HSZ.out) (fun hHeld => ?_)
              clear hK K' hHeld v0 v1 vf0 vf1 vl HRV
              try simp only [Act.put, List.getElem_toArray, List.getElem_cons_zero, List.getElem_cons_succ, List.setIfInBounds_toArray, List.set_cons_zero, List.set_cons_succ]
              generalize (wy3.setCell ⟨rv, 0, none⟩ (.int .i64 0)).setCell ⟨rv, 1, none⟩ (.slice none 0 0) = wz at HSZ ⊢
              have hHeld : (Turns (fun _ => False) w7 wz ∧ (convert 27 9 (.slice a n cap)).run Try.prog wz = .ok (.string ts) wz) := HSS.out _ HSZ.out
              refine wpAnyH_take (i := 15) (v := ?_) rfl (by kernel_rfl) (by kernel_rfl) (by kernel_rfl) (fun _ _ _ h => h) (Or.inl ⟨by rfl, ?_⟩) (by assumption) ?_
              rotate_left
              · (intro w' hSw; (try dsimp only at hSw); first | (go_simp; done) | (go_simp; with_reducible rfl))
              try simp only [Act.put, List.getElem_toArray, List.getElem_cons_zero, List.getElem_cons_succ, List.setIfInBounds_toArray, List.set_cons_zero, List.set_cons_succ]
              refine wpAnyH_take (i := 16) (v := ?_) rfl (by kernel_rfl) (by kernel_rfl) (by kernel_rfl) (fun _ _ _ h => h) (Or.inl ⟨by rfl, ?_⟩) (by assumption) ?_
              rotate_left
              · (intro w' hSw; (try dsimp only at hSw); first | (go_simp; done) | (go_simp; with_reducible rfl))
              try simp only [Act.put, List.getElem_toArray, List.getElem_cons_zero, List.getElem_cons_succ, List.setIfInBounds_toArray, List.set_cons_zero, List.set_cons_succ]
              clear hHeld
              refine wpAnyH_done (by kernel_rfl) ?_ _
              have HT8 := Lib.hid (HT7.out.then HSZ.out)
              clear HSY3 HSZ HSS HRB
              (try clear HSY)
              (try clear HSY1)
              (try clear HSY2)
              clear HT7
              have hx3 := Hx3.out
              have m1 : (1 : Int) ≤ (s.size : Int) := by omega
              have m2 : 1 ≤ s.size := by omega
              have m3 : ¬ 9223372036854775807 < 1 + (s.size - 1) := by omega
              obtain ⟨a8, c8, w8, hcv, IB8, T8⟩ := bytes_of x3 wz
              have HIB8 := Lib.hid IB8
              have HT8' := Lib.hid (HT8.out.then T8)
              clear IB8 T8
              go_wp2_with fail
              refine (dec_bad HIB8.out (by omega) HDc.out).mono ?_
              rintro e wx ⟨rfl, Tx⟩
              have HTx := Lib.hid (HT8'.out.then Tx)
              clear Tx hcv hx3 m1 m2 m3 HIB8 HT8' HT8
              go_wp2_with fail
              have HT9 := Lib.hid (HTx.out.alloc (.cells #[.int .i64 0, .slice none 0 0] 24))
              generalize wx.alloc (.cells #[.int .i64 0, .slice none 0 0] 24) = w9 at HT9 ⊢
              generalize wx.heap.size = b9
              clear HTx
              have HSS : Hid (∀ w', Turns (fun _ => False) w9 w' → (Turns (fun _ => False) w9 w' ∧ (convert 27 9 (.slice a n cap)).run Try.prog w' = .ok (.string ts) w')) := Lib.hid (fun w' t => ⟨t, HST.out w' (HT9.out.then t)⟩)
              have HSY := Lib.hid ((Turns.refl (fun _ => False) w9).drew)
              refine wp_region_held_drew (S := (fun w' => (Turns (fun _ => False) w9 w' ∧ (convert 27 9 (.slice a n cap)).run Try.prog w' = .ok (.string ts) w'))) (by kernel_rfl) ?_ (fun hHeld => ?_)
              · exact HSS.out _ HSY.out
              generalize w9.drew = wy at HSY hHeld ⊢
              have hx4 := Hx4.out
              have q0 : ¬ 9223372036854775807 < 1 + 1 := by omega
              have q1 : ¬ 9223372036854775807 < 1 + 1 + (s.size - 2) := by omega
              have q2 : (2 : Int) ≤ (s.size : Int) := by omega
              have q3 : (1 : Int) ≤ (s.size : Int) := by omega
              have q4 : 2 ≤ s.size := by omega
              have q5 : 1 ≤ s.size := by omega
              have q6 : min 1 s.size = 1 := by omega
              have q7 : ¬ 9223372036854775807 < s.size := by omega
              refine wpAnyH_take (i := 0) (v := ?_) rfl (by kernel_rfl) (by kernel_rfl) (by kernel_rfl) (fun _ _ _ h => h) (Or.inl ⟨by rfl, ?_⟩) (by assumption) ?_
              rotate_left
              · (intro w' hSw; (try dsimp only at hSw); first | (go_simp; done) | (go_simp; with_reducible rfl))
              try simp only [Act.put, List.getElem_toArray, List.getElem_cons_zero, List.getElem_cons_succ, List.setIfInBounds_toArray, List.set_cons_zero, List.set_cons_succ]
              refine wpAnyH_take (i := 1) (v := ?_) rfl (by kernel_rfl) (by kernel_rfl) (by kernel_rfl) (fun _ _ _ h => h) (Or.inl ⟨by rfl, ?_⟩) (by assumption) ?_
              rotate_left
              · (intro w' hSw; (try dsimp only at hSw); first | (go_simp; done) | (go_simp; with_reducible rfl))
              try simp only [Act.put, List.getElem_toArray, List.getElem_cons_zero, List.getElem_cons_succ, List.setIfInBounds_toArray, List.set_cons_zero, List.set_cons_succ]
              refine wpAnyH_take (i := 2) (v := ?_) rfl (by kernel_rfl) (by kernel_rfl) (by kernel_rfl) (fun _ _ _ h => h) (Or.inl ⟨by rfl, ?_⟩) (by assumption) ?_
              rotate_left
              · (intro w' hSw; (try dsimp only at hSw); first | (go_simp; done) | (go_simp; with_reducible rfl))
              try simp only [Act.put, List.getElem_toArray, List.getElem_cons_zero, List.getElem_cons_succ, List.setIfInBounds_toArray, List.set_cons_zero, List.set_cons_succ]
              refine wpAnyH_take (i := 3) (v := ?_) rfl (by kernel_rfl) (by kernel_rfl) (by kernel_rfl) (fun _ _ _ h => h) (Or.inl ⟨by rfl, ?_⟩) (by assumption) ?_
              rotate_left
              · (intro w' hSw; (try dsimp only at hSw); first | (go_simp; done) | (go_simp; with_reducible rfl))
              try simp only [Act.put, List.getElem_toArray, List.getElem_cons_zero, List.getElem_cons_succ, List.setIfInBounds_toArray, List.set_cons_zero, List.set_cons_succ]
              refine wpAnyH_take (i := 4) (v := ?_) rfl (by kernel_rfl) (by kernel_rfl) (by kernel_rfl) (fun _ _ _ h => h) (Or.inl ⟨by rfl, ?_⟩) (by assumption) ?_
              rotate_left
              · (intro w' hSw; (try dsimp only at hSw); first | (go_simp; done) | (go_simp; with_reducible rfl))
              try simp only [Act.put, List.getElem_toArray, List.getElem_cons_zero, List.getElem_cons_succ, List.setIfInBounds_toArray, List.set_cons_zero, List.set_cons_succ]
              refine wpAnyH_take (i := 5) (v := ?_) rfl (by kernel_rfl) (by kernel_rfl) (by kernel_rfl) (fun _ _ _ h => h) (Or.inl ⟨by rfl, ?_⟩) (by assumption) ?_
              rotate_left
              · (intro w' hSw; (try dsimp only at hSw); first | (go_simp; done) | (go_simp; with_reducible rfl))
              try simp only [Act.put, List.getElem_toArray, List.getElem_cons_zero, List.getElem_cons_succ, List.setIfInBounds_toArray, List.set_cons_zero, List.set_cons_succ]
              clear hHeld
              clear hx4
              refine wpAnyH_ready (rs := [6, 12]) (by kernel_rfl) (by simp) ?_
              refine AllReadyH.cons rfl (fun K' hK => ?_) (AllReadyH.cons rfl (fun K' hK => ?_) AllReadyH.nil)
              · skip
                obtain ⟨ab, cb, wy1, hcv, IBb, Tb⟩ := bytes_of x4 wy
                have HIBb := Lib.hid IBb
                have HSY1 := Lib.hid (HSY.out.then Tb)
                clear IBb Tb
                go_simp
                clear hcv
                refine hK.out _ _ (HSS.out _ HSY1.out) (fun hHeld => ?_)
                clear hK K' hHeld
                try simp only [Act.put, List.getElem_toArray, List.getElem_cons_zero, List.getElem_cons_succ, List.setIfInBounds_toArray, List.set_cons_zero, List.set_cons_succ]
                refine wpAnyH_ready (rs := [7, 12]) (by kernel_rfl) (by simp) ?_
                refine AllReadyH.cons rfl (fun K' hK => ?_) (AllReadyH.cons rfl (fun K' hK => ?_) AllReadyH.nil)
                · skip
                  go_simp
                  refine (dec_bad HIBb.out (by omega) HDd.out).mono ?_
                  rintro e wy2 ⟨rfl, Tb⟩
                  have HSY2 := Lib.hid (HSY1.out.then Tb)
                  clear Tb HIBb
                  refine hK.out _ _ (HSS.out _ HSY2.out) (fun hHeld => ?_)
                  clear hK K' hHeld
                  try simp only [Act.put, List.getElem_toArray, List.getElem_cons_zero, List.getElem_cons_succ, List.setIfInBounds_toArray, List.set_cons_zero, List.set_cons_succ]
                  have hHeld : (Turns (fun _ => False) w9 wy2 ∧ (convert 27 9 (.slice a n cap)).run Try.prog wy2 = .ok (.string ts) wy2) := HSS.out _ HSY2.out
                  refine wpAnyH_take (i := 8) (v := ?_) rfl (by kernel_rfl) (by kernel_rfl) (by kernel_rfl) (fun _ _ _ h => h) (Or.inl ⟨by rfl, ?_⟩) (by assumption) ?_
                  rotate_left
                  · (intro w' hSw; (try dsimp only at hSw); first | (go_simp; done) | (go_simp; with_reducible rfl))
                  try simp only [Act.put, List.getElem_toArray, List.getElem_cons_zero, List.getElem_cons_succ, List.setIfInBounds_toArray, List.set_cons_zero, List.set_cons_succ]
                  refine wpAnyH_take (i := 9) (v := ?_) rfl (by kernel_rfl) (by kernel_rfl) (by kernel_rfl) (fun _ _ _ h => h) (Or.inl ⟨by rfl, ?_⟩) (by assumption) ?_
                  rotate_left
                  · (intro w' hSw; (try dsimp only at hSw); first | (go_simp; done) | (go_simp; with_reducible rfl))
                  try simp only [Act.put, List.getElem_toArray, List.getElem_cons_zero, List.getElem_cons_succ, List.setIfInBounds_toArray, List.set_cons_zero, List.set_cons_succ]
                  refine wpAnyH_take (i := 10) (v := ?_) rfl (by kernel_rfl) (by kernel_rfl) (by kernel_rfl) (fun _ _ _ h => h) (Or.inl ⟨by rfl, ?_⟩) (by assumption) ?_
                  rotate_left
                  · (intro w' hSw; (try dsimp only at hSw); first | (go_simp; done) | (go_simp; with_reducible rfl))
                  try simp only [Act.put, List.getElem_toArray, List.getElem_cons_zero, List.getElem_cons_succ, List.setIfInBounds_toArray, List.set_cons_zero, List.set_cons_succ]
                  refine wpAnyH_take (i := 11) (v := ?_) rfl (by kernel_rfl) (by kernel_rfl) (by kernel_rfl) (fun _ _ _ h => h) (Or.inl ⟨by rfl, ?_⟩) (by assumption) ?_
                  rotate_left
                  · (intro w' hSw; (try dsimp only at hSw); first | (go_simp; done) | (go_simp; with_reducible rfl))
                  try simp only [Act.put, List.getElem_toArray, List.getElem_cons_zero, List.getElem_cons_succ, List.setIfInBounds_toArray, List.set_cons_zero, List.set_cons_succ]
                  clear hHeld
                  refine wpAnyH_ready (rs := [12]) (by kernel_rfl) (by simp) ?_
                  refine AllReadyH.cons rfl (fun K' hK => ?_) AllReadyH.nil
                  have HRV : Hid (Row (wy2.alloc (.cells #[.int .i64 0, .slice none 0 0] 24)) wy2.heap.size 24 [.int .i64 0, .slice none 0 0]) := Lib.hid (heap_new rfl)
                  have HRB : Hid (w9.heap.size ≤ wy2.heap.size) := Lib.hid HSY2.out.size
                  have HSY3 := Lib.hid (HSY2.out.alloc (.cells #[.int .i64 0, .slice none 0 0] 24))
                  go_simp
                  refine hK.out _ _ (HSS.out _ HSY3.out) (fun hHeld => ?_)
                  clear hK K' hHeld
                  try simp only [Act.put, List.getElem_toArray, List.getElem_cons_zero, List.getElem_cons_succ, List.setIfInBounds_toArray, List.set_cons_zero, List.set_cons_succ]
                  generalize wy2.alloc (.cells #[.int .i64 0, .slice none 0 0] 24) = wy3 at HRV HSY3 ⊢
                  generalize wy2.heap.size = rv at HRV HRB ⊢
                  have v0 := HRV.out.cell 0 _ rfl
                  have v1 := HRV.out.cell 1 _ rfl
                  have vf0 := HRV.out.free 0
                  have vf1 := HRV.out.free 1
                  have vl := HRV.out.lt
                  refine wpAnyH_ready (rs := [13]) (by kernel_rfl) (by simp) ?_
                  refine AllReadyH.cons rfl (fun K' hK => ?_) AllReadyH.nil
                  go_simp
                  have HSZ := Lib.hid ((HSY3.out.setCell (p := ⟨rv, 0, none⟩) (Or.inr HRB.out) (.int .i64 0)).setCell (p := ⟨rv, 1, none⟩) (Or.inr HRB.out) (.slice none 0 0))
                  refine hK.out _ _ (HSS.out _ HSZ.out) (fun hHeld => ?_)
                  clear hK K' hHeld v0 v1 vf0 vf1 vl HRV
                  try simp only [Act.put, List.getElem_toArray, List.getElem_cons_zero, List.getElem_cons_succ, List.setIfInBounds_toArray, List.set_cons_zero, List.set_cons_succ]
                  generalize (wy3.setCell ⟨rv, 0, none⟩ (.int .i64 0)).setCell ⟨rv, 1, none⟩ (.slice none 0 0) = wz at HSZ ⊢
                  have hHeld : (Turns (fun _ => False) w9 wz ∧ (convert 27 9 (.slice a n cap)).run Try.prog wz = .ok (.string ts) wz) := HSS.out _ HSZ.out
                  refine wpAnyH_take (i := 14) (v := ?_) rfl (by kernel_rfl) (by kernel_rfl) (by kernel_rfl) (fun _ _ _ h => h) (Or.inl ⟨by rfl, ?_⟩) (by assumption) ?_
                  rotate_left
                  · (intro w' hSw; (try dsimp only at hSw); first | (go_simp; done) | (go_simp; with_reducible rfl))
                  try simp only [Act.put, List.getElem_toArray, List.getElem_cons_zero, List.getElem_cons_succ, List.setIfInBounds_toArray, List.set_cons_zero, List.set_cons_succ]
                  refine wpAnyH_take (i := 15) (v := ?_) rfl (by kernel_rfl) (by kernel_rfl) (by kernel_rfl) (fun _ _ _ h => h) (Or.inl ⟨by rfl, ?_⟩) (by assumption) ?_
                  rotate_left
                  · (intro w' hSw; (try dsimp only at hSw); first | (go_simp; done) | (go_simp; with_reducible rfl))
                  try simp only [Act.put, List.getElem_toArray, List.getElem_cons_zero, List.getElem_cons_succ, List.setIfInBounds_toArray, List.set_cons_zero, List.set_cons_succ]
                  clear hHeld
                  refine wpAnyH_done (by kernel_rfl) ?_ _
                  have HT10 := Lib.hid (HT9.out.then HSZ.out)
                  clear HSY3 HSZ HSS HRB
                  (try clear HSY)
                  (try clear HSY1)
                  (try clear HSY2)
                  clear HT9
                  clear q0 q1 q2 q3 q4 q5 q6 q7
                  go_wp2_with fail
                  refine (told_any _).mono ?_
                  rintro e w11 ⟨rfl, T11⟩
                  have HT11 := Lib.hid (HT10.out.then T11)
                  clear T11
                  go_wp2_with fail
                  go_ret
                  exact ⟨rfl, below_of (HT1.out.then HT11.out)⟩
                · skip
                  have HRV : Hid (Row (wy1.alloc (.cells #[.int .i64 0, .slice none 0 0] 24)) wy1.heap.size 24 [.int .i64 0, .slice none 0 0]) := Lib.hid (heap_new rfl)
                  have HRB : Hid (w9.heap.size ≤ wy1.heap.size) := Lib.hid HSY1.out.size
                  have HSY2 := Lib.hid (HSY1.out.alloc (.cells #[.int .i64 0, .slice none 0 0] 24))
                  have HIBc := Lib.hid (HIBb.out.later ((Turns.refl (fun _ => False) wy1).alloc (.cells #[.int .i64 0, .slice none 0 0] 24)) (fun _ _ _ x => x))
                  clear HIBb
                  go_simp
                  refine hK.out _ _ (HSS.out _ HSY2.out) (fun hHeld => ?_)
                  clear hK K' hHeld
                  try simp only [Act.put, List.getElem_toArray, List.getElem_cons_zero, List.getElem_cons_succ, List.setIfInBounds_toArray, List.set_cons_zero, List.set_cons_succ]
                  generalize wy1.alloc (.cells #[.int .i64 0, .slice none 0 0] 24) = wy2 at HRV HSY2 HIBc ⊢
                  generalize wy1.heap.size = rv at HRV HRB ⊢
                  have HIBb := HIBc
                  clear HIBc
                  refine wpAnyH_ready (rs := [7]) (by kernel_rfl) (by simp) ?_
                  refine AllReadyH.cons rfl (fun K' hK => ?_) AllReadyH.nil
                  go_simp
                  refine (dec_bad HIBb.out (by omega) HDd.out).mono ?_
                  rintro e wy3 ⟨rfl, Tb⟩
                  have HSY3 := Lib.hid (HSY2.out.then Tb)
                  have HRV2 := Lib.hid (HRV.out.later Tb (fun x => x))
                  clear HRV
                  clear Tb HIBb
                  refine hK.out _ _ (HSS.out _ HSY3.out) (fun hHeld => ?_)
                  clear hK K' hHeld
                  try simp only [Act.put, List.getElem_toArray, List.getElem_cons_zero, List.getElem_cons_succ, List.setIfInBounds_toArray, List.set_cons_zero, List.set_cons_succ]
                  have HRV := HRV2
                  clear HRV2
                  have hHeld : (Turns (fun _ => False) w9 wy3 ∧ (convert 27 9 (.slice a n cap)).run Try.prog wy3 = .ok (.string ts) wy3) := HSS.out _ HSY3.out
                  refine wpAnyH_take (i := 8) (v := ?_) rfl (by kernel_rfl) (by kernel_rfl) (by kernel_rfl) (fun _ _ _ h => h) (Or.inl ⟨by rfl, ?_⟩) (by assumption) ?_
                  rotate_left
                  · (intro w' hSw; (try dsimp only at hSw); first | (go_simp; done) | (go_simp; with_reducible rfl))
                  try simp only [Act.put, List.getElem_toArray, List.getElem_cons_zero, List.getElem_cons_succ, List.setIfInBounds_toArray, List.set_cons_zero, List.set_cons_succ]
                  refine wpAnyH_take (i := 9) (v := ?_) rfl (by kernel_rfl) (by kernel_rfl) (by kernel_rfl) (fun _ _ _ h => h) (Or.inl ⟨by rfl, ?_⟩) (by assumption) ?_
                  rotate_left
                  · (intro w' hSw; (try dsimp only at hSw); first | (go_simp; done) | (go_simp; with_reducible rfl))
                  try simp only [Act.put, List.getElem_toArray, List.getElem_cons_zero, List.getElem_cons_succ, List.setIfInBounds_toArray, List.set_cons_zero, List.set_cons_succ]
                  refine wpAnyH_take (i := 10) (v := ?_) rfl (by kernel_rfl) (by kernel_rfl) (by kernel_rfl) (fun _ _ _ h => h) (Or.inl ⟨by rfl, ?_⟩) (by assumption) ?_
                  rotate_left
                  · (intro w' hSw; (try dsimp only at hSw); first | (go_simp; done) | (go_simp; with_reducible rfl))
                  try simp only [Act.put, List.getElem_toArray, List.getElem_cons_zero, List.getElem_cons_succ, List.setIfInBounds_toArray, List.set_cons_zero, List.set_cons_succ]
                  refine wpAnyH_take (i := 11) (v := ?_) rfl (by kernel_rfl) (by kernel_rfl) (by kernel_rfl) (fun _ _ _ h => h) (Or.inl ⟨by rfl, ?_⟩) (by assumption) ?_
                  rotate_left
                  · (intro w' hSw; (try dsimp only at hSw); first | (go_simp; done) | (go_simp; with_reducible rfl))
                  try simp only [Act.put, List.getElem_toArray, List.getElem_cons_zero, List.getElem_cons_succ, List.setIfInBounds_toArray, List.set_cons_zero, List.set_cons_succ]
                  clear hHeld
                  have v0 := HRV.out.cell 0 _ rfl
                  have v1 := HRV.out.cell 1 _ rfl
                  have vf0 := HRV.out.free 0
                  have vf1 := HRV.out.free 1
                  have vl := HRV.out.lt
                  refine wpAnyH_ready (rs := [13]) (by kernel_rfl) (by simp) ?_
                  refine AllReadyH.cons rfl (fun K' hK => ?_) AllReadyH.nil
                  go_simp
                  have HSZ := Lib.hid ((HSY3.out.setCell (p := ⟨rv, 0, none⟩) (Or.inr HRB.out) (.int .i64 0)).setCell (p := ⟨rv, 1, none⟩) (Or.inr HRB.out) (.slice none 0 0))
                  refine hK.out _ _ (HSS.out _ HSZ.out) (fun hHeld => ?_)
                  clear hK K' hHeld v0 v1 vf0 vf1 vl HRV
                  try simp only [Act.put, List.getElem_toArray, List.getElem_cons_zero, List.getElem_cons_succ, List.setIfInBounds_toArray, List.set_cons_zero, List.set_cons_succ]
                  generalize (wy3.setCell ⟨rv, 0, none⟩ (.int .i64 0)).setCell ⟨rv, 1, none⟩ (.slice none 0 0) = wz at HSZ ⊢
                  have hHeld : (Turns (fun _ => False) w9 wz ∧ (convert 27 9 (.slice a n cap)).run Try.prog wz = .ok (.string ts) wz) := HSS.out _ HSZ.out
                  refine wpAnyH_take (i := 14) (v := ?_) rfl (by kernel_rfl) (by kernel_rfl) (by kernel_rfl) (fun _ _ _ h => h) (Or.inl ⟨by rfl, ?_⟩) (by assumption) ?_
                  rotate_left
                  · (intro w' hSw; (try dsimp only at hSw); first | (go_simp; done) | (go_simp; with_reducible rfl))
                  try simp only [Act.put, List.getElem_toArray, List.getElem_cons_zero, List.getElem_cons_succ, List.setIfInBounds_toArray, List.set_cons_zero, List.set_cons_succ]
                  refine wpAnyH_take (i := 15) (v := ?_) rfl (by kernel_rfl) (by kernel_rfl) (by kernel_rfl) (fun _ _ _ h => h) (Or.inl ⟨by rfl, ?_⟩) (by assumption) ?_
                  rotate_left
                  · (intro w' hSw; (try dsimp only at hSw); first | (go_simp; done) | (go_simp; with_reducible rfl))
                  try simp only [Act.put, List.getElem_toArray, List.getElem_cons_zero, List.getElem_cons_succ, List.setIfInBounds_toArray, List.set_cons_zero, List.set_cons_succ]
                  clear hHeld
                  refine wpAnyH_done (by kernel_rfl) ?_ _
                  have HT10 := Lib.hid (HT9.out.then HSZ.out)
                  clear HSY3 HSZ HSS HRB
                  (try clear HSY)
                  (try clear HSY1)
                  (try clear HSY2)
                  clear HT9
                  clear q0 q1 q2 q3 q4 q5 q6 q7
                  go_wp2_with fail
                  refine (told_any _).mono ?_
                  rintro e w11 ⟨rfl, T11⟩
                  have HT11 := Lib.hid (HT10.out.then T11)
                  clear T11
                  go_wp2_with fail
                  go_ret
                  exact ⟨rfl, below_of (HT1.out.then HT11.out)⟩
              · skip
                have HRV : Hid (Row (wy.alloc (.cells #[.int .i64 0, .slice none 0 0] 24)) wy.heap.size 24 [.int .i64 0, .slice none 0 0]) := Lib.hid (heap_new rfl)
                have HRB : Hid (w9.heap.size ≤ wy.heap.size) := Lib.hid HSY.out.size
                have HSY1 := Lib.hid (HSY.out.alloc (.cells #[.int .i64 0, .slice none 0 0] 24))
                go_simp
                refine hK.out _ _ (HSS.out _ HSY1.out) (fun hHeld => ?_)
                clear hK K' hHeld
                try simp only [Act.put, List.getElem_toArray, List.getElem_cons_zero, List.getElem_cons_succ, List.setIfInBounds_toArray, List.set_cons_zero, List.set_cons_succ]
                generalize wy.alloc (.cells #[.int .i64 0, .slice none 0 0] 24) = wy1 at HRV HSY1 ⊢
                generalize wy.heap.size = rv at HRV HRB ⊢
                refine wpAnyH_ready (rs := [6]) (by kernel_rfl) (by simp) ?_
                refine AllReadyH.cons rfl (fun K' hK => ?_) AllReadyH.nil
                obtain ⟨ab, cb, wy2, hcv, IBb, Tb⟩ := bytes_of x4 wy1
                have HIBb := Lib.hid IBb
                have HSY2 := Lib.hid (HSY1.out.then Tb)
                have HRV2 := Lib.hid (HRV.out.later Tb (fun x => x))
                clear HRV
                clear IBb Tb
                go_simp
                clear hcv
                refine hK.out _ _ (HSS.out _ HSY2.out) (fun hHeld => ?_)
                clear hK K' hHeld
                try simp only [Act.put, List.getElem_toArray, List.getElem_cons_zero, List.getElem_cons_succ, List.setIfInBounds_toArray, List.set_cons_zero, List.set_cons_succ]
                have HRV := HRV2
                clear HRV2
                refine wpAnyH_ready (rs := [7]) (by kernel_rfl) (by simp) ?_
                refine AllReadyH.cons rfl (fun K' hK => ?_) AllReadyH.nil
                go_simp
                refine (dec_bad HIBb.out (by omega) HDd.out).mono ?_
                rintro e wy3 ⟨rfl, Tb⟩
                have HSY3 := Lib.hid (HSY2.out.then Tb)
                have HRV2 := Lib.hid (HRV.out.later Tb (fun x => x))
                clear HRV
                clear Tb HIBb
                refine hK.out _ _ (HSS.out _ HSY3.out) (fun hHeld => ?_)
                clear hK K' hHeld
                try simp only [Act.put, List.getElem_toArray, List.getElem_cons_zero, List.getElem_cons_succ, List.setIfInBounds_toArray, List.set_cons_zero, List.set_cons_succ]
                have HRV := HRV2
                clear HRV2
                have hHeld : (Turns (fun _ => False) w9 wy3 ∧ (convert 27 9 (.slice a n cap)).run Try.prog wy3 = .ok (.string ts) wy3) := HSS.out _ HSY3.out
                refine wpAnyH_take (i := 8) (v := ?_) rfl (by kernel_rfl) (by kernel_rfl) (by kernel_rfl) (fun _ _ _ h => h) (Or.inl ⟨by rfl, ?_⟩) (by assumption) ?_
                rotate_left
                · (intro w' hSw; (try dsimp only at hSw); first | (go_simp; done) | (go_simp; with_reducible rfl))
                try simp only [Act.put, List.getElem_toArray, List.getElem_cons_zero, List.getElem_cons_succ, List.setIfInBounds_toArray, List.set_cons_zero, List.set_cons_succ]
                refine wpAnyH_take (i := 9) (v := ?_) rfl (by kernel_rfl) (by kernel_rfl) (by kernel_rfl) (fun _ _ _ h => h) (Or.inl ⟨by rfl, ?_⟩) (by assumption) ?_
                rotate_left
                · (intro w' hSw; (try dsimp only at hSw); first | (go_simp; done) | (go_simp; with_reducible rfl))
                try simp only [Act.put, List.getElem_toArray, List.getElem_cons_zero, List.getElem_cons_succ, List.setIfInBounds_toArray, List.set_cons_zero, List.set_cons_succ]
                refine wpAnyH_take (i := 10) (v := ?_) rfl (by kernel_rfl) (by kernel_rfl) (by kernel_rfl) (fun _ _ _ h => h) (Or.inl ⟨by rfl, ?_⟩) (by assumption) ?_
                rotate_left
                · (intro w' hSw; (try dsimp only at hSw); first | (go_simp; done) | (go_simp; with_reducible rfl))
                try simp only [Act.put, List.getElem_toArray, List.getElem_cons_zero, List.getElem_cons_succ, List.setIfInBounds_toArray, List.set_cons_zero, List.set_cons_succ]
                refine wpAnyH_take (i := 11) (v := ?_) rfl (by kernel_rfl) (by kernel_rfl) (by kernel_rfl) (fun _ _ _ h => h) (Or.inl ⟨by rfl, ?_⟩) (by assumption) ?_
                rotate_left
                · (intro w' hSw; (try dsimp only at hSw); first | (go_simp; done) | (go_simp; with_reducible rfl))
                try simp only [Act.put, List.getElem_toArray, List.getElem_cons_zero, List.getElem_cons_succ, List.setIfInBounds_toArray, List.set_cons_zero, List.set_cons_succ]
                clear hHeld
                have v0 := HRV.out.cell 0 _ rfl
                have v1 := HRV.out.cell 1 _ rfl
                have vf0 := HRV.out.free 0
                have vf1 := HRV.out.free 1
                have vl := HRV.out.lt
                refine wpAnyH_ready (rs := [13]) (by kernel_rfl) (by simp) ?_
                refine AllReadyH.cons rfl (fun K' hK => ?_) AllReadyH.nil
                go_simp
                have HSZ := Lib.hid ((HSY3.out.setCell (p := ⟨rv, 0, none⟩) (Or.inr HRB.out) (.int .i64 0)).setCell (p := ⟨rv, 1, none⟩) (Or.inr HRB.out) (.slice none 0 0))
                refine hK.out _ _ (HSS.out _ HSZ.out) (fun hHeld => ?_)
                clear hK K' hHeld v0 v1 vf0 vf1 vl HRV
                try simp only [Act.put, List.getElem_toArray, List.getElem_cons_zero, List.getElem_cons_succ, List.setIfInBounds_toArray, List.set_cons_zero, List.set_cons_succ]
                generalize (wy3.setCell ⟨rv, 0, none⟩ (.int .i64 0)).setCell ⟨rv, 1, none⟩ (.slice none 0 0) = wz at HSZ ⊢
                have hHeld : (Turns (fun _ => False) w9 wz ∧ (convert 27 9 (.slice a n cap)).run Try.prog wz = .ok (.string ts) wz) := HSS.out _ HSZ.out
                refine wpAnyH_take (i := 14) (v := ?_) rfl (by kernel_rfl) (by kernel_rfl) (by kernel_rfl) (fun _ _ _ h => h) (Or.inl ⟨by rfl, ?_⟩) (by assumption) ?_
                rotate_left
                · (intro w' hSw; (try dsimp only at hSw); first | (go_simp; done) | (go_simp; with_reducible rfl))
                try simp only [Act.put, List.getElem_toArray, List.getElem_cons_zero, List.getElem_cons_succ, List.setIfInBounds_toArray, List.set_cons_zero, List.set_cons_succ]
                refine wpAnyH_take (i := 15) (v := ?_) rfl (by kernel_rfl) (by kernel_rfl) (by kernel_rfl) (fun _ _ _ h => h) (Or.inl ⟨by rfl, ?_⟩) (by assumption) ?_
                rotate_left
                · (intro w' hSw; (try dsimp only at hSw); first | (go_simp; done) | (go_simp; with_reducible rfl))
                try simp only [Act.put, List.getElem_toArray, List.getElem_cons_zero, List.getElem_cons_succ, List.setIfInBounds_toArray, List.set_cons_zero, List.set_cons_succ]
                clear hHeld
                refine wpAnyH_done (by kernel_rfl) ?_ _
                have HT10 := Lib.hid (HT9.out.then HSZ.out)
                clear HSY3 HSZ HSS HRB
                (try clear HSY)
                (try clear HSY1)
                (try clear HSY2)
                clear HT9
                clear q0 q1 q2 q3 q4 q5 q6 q7
                go_wp2_with fail
                refine (told_any _).mono ?_
                rintro e w11 ⟨rfl, T11⟩
                have HT11 := Lib.hid (HT10.out.then T11)
                clear T11
                go_wp2_with fail
                go_ret
                exact ⟨rfl, below_of (HT1.out.then HT11.out)⟩
  · have E : Hid (∀ w', Turns (fun _ => False) w1 w' → Calls Try.prog 16 #[.agg #[.int .i64 p.g, .slice ao N fcap]] w' fun e w'' => e = .returned (.tuple #[.string ⟨#[]⟩, .int .i64 1]) ∧ Turns (fun _ => False) w' w'') := Lib.hid (fun w' t => renc_bad wg (HF.out.later t) hmay)
    clear hmay wg
    go_enter Try.func5, Try.ntmps5
    go_wp2_with fail
    rw [H1.out]
    have c0 := HR1.out.cell 0 _ rfl
    have c1 := HR1.out.cell 1 _ rfl
    refine (E.out w1 (Turns.refl _ _)).mono ?_
    rintro e w2 ⟨rfl, T2⟩
    have HT2 := Lib.hid T2
    clear T2 c0 c1
    go_wp2_with fail
    refine (told_any _).mono ?_
    rintro e w4 ⟨rfl, T4⟩
    have HT4 := Lib.hid (HT2.out.then T4)
    clear T4
    go_wp2_with fail
    go_ret
    exact ⟨rfl, below_of (HT1.out.then HT4.out)⟩
end Go.Proofs.Ytedgeoigapilnaa
