/- roots: the walk of RootsPlays. -/
import Derived.Test.YtpbpnoohbfchgaaOps
namespace Go.Proofs.Ytpbpnoohbfchgaa
open Go.RowKit

/-- The program's list bears js, the document's list vl bears ls; they lie apart. -/
structure Pl (w wr : World) (b : Nat) (v vl : Value) (js ls : List J) : Prop where
  st : St w wr b v js
  jl : JV wr w.heap.size vl ls
  apart : ∀ x, vl.ownBlock = some x → x ≠ b ∧ v.ownBlock ≠ some x
theorem Pl.then {w wr w' : World} {b : Nat} {v vl : Value} {js ls : List J} (h : Pl w wr b v vl js ls) (t : Turns (fun _ => False) wr w') : Pl w w' b v vl js ls :=
  ⟨h.st.then t, h.jl.later t (fun _ _ x => x), h.apart⟩
theorem Pl.next {w wr : World} {b : Nat} {v vl : Value} {j : J} {js ls : List J} (h : Pl w wr b v vl (j :: js) ls) : Calls Try.prog 8 #[.pointer (some ⟨b, 0, none⟩)] wr fun e w'' => e = .returned (.tuple #[.agg #[.int .i64 j.g, .int .i64 j.f, .int .i64 j.t], .bool true]) ∧ ∃ v', Pl w w'' b v' vl js ls := by
  refine h.st.next.mono ?_
  rintro e w'' ⟨rfl, ⟨v', S, hv⟩, T⟩
  exact ⟨rfl, v', S, h.jl.later T (fun g hg hgb => (h.apart g hg).1 hgb), fun x hx => ⟨(h.apart x hx).1, by rw [hv]; exact (h.apart x hx).2⟩⟩
theorem Pl.end {w wr : World} {b : Nat} {v vl : Value} {ls : List J} (h : Pl w wr b v vl [] ls) : Calls Try.prog 8 #[.pointer (some ⟨b, 0, none⟩)] wr fun e w'' => e = .returned (.tuple #[.agg #[.int .i64 0, .int .i64 0, .int .i64 0], .bool false]) ∧ Pl w w'' b v vl [] ls := by
  refine h.st.end.mono ?_
  rintro e w'' ⟨rfl, S, T⟩
  exact ⟨rfl, h.then T⟩
theorem Pl.add {w wr : World} {b : Nat} {v vl : Value} {js ls : List J} (h : Pl w wr b v vl js ls) (g : Int) (hl : js.length ≤ 100000) : Calls Try.prog 11 #[.pointer (some ⟨b, 0, none⟩), .int .i64 g] wr fun e w'' => e = .returned (.tuple #[]) ∧ ∃ v', Pl w w'' b v' vl (added js g) ls := by
  refine (h.st.add g hl).mono ?_
  rintro e w'' ⟨rfl, ⟨v', S, hv⟩, T⟩
  refine ⟨rfl, v', S, h.jl.later T (fun g hg hgb => ?_), fun x hx => ⟨(h.apart x hx).1, fun hx' => ?_⟩⟩
  · rcases hgb with e | e
    · exact (h.apart g hg).1 e
    · exact (h.apart g hg).2 e
  · rcases hv x hx' with e | e
    · exact (h.apart x hx).2 e
    · have := View.lt h.jl x hx; omega

theorem hasG_succ (js : List J) (g : Int) (k : Nat) (h : k < js.length) : hasG (js.take (k + 1)) g = (hasG (js.take k) g || ((js.getD k default).g == g)) := by
  rw [List.take_add_one]
  simp only [hasG, List.any_append, List.getD_eq_getElem?_getD, List.getElem?_eq_getElem h]
  simp

theorem plays_bad1 (G : Int) (a : Option Addr) (n cap : Nat) (o : Value) (w : World) (h : 100 < G) : Calls Try.prog 4 #[.int .i64 G, .slice a n cap, o] w fun e w' => e = .returned (.bool true) ∧ Turns (fun _ => False) w w' := by
  go_enter Try.func4, Try.ntmps4
  go_wp2_with fail
  refine (told_any _).mono ?_
  rintro e w2 ⟨rfl, t⟩
  have TF := Lib.hid t
  clear t
  go_wp2_with fail
  go_ret
  exact ⟨rfl, TF.out⟩
theorem plays_bad2 (G : Int) (a : Option Addr) (n cap : Nat) (o : Value) (w : World) (h : ¬ 100 < G) (hn : 20 < (n : Int)) : Calls Try.prog 4 #[.int .i64 G, .slice a n cap, o] w fun e w' => e = .returned (.bool true) ∧ Turns (fun _ => False) w w' := by
  go_enter Try.func4, Try.ntmps4
  go_wp2_with fail
  refine (told_any _).mono ?_
  rintro e w2 ⟨rfl, t⟩
  have TF := Lib.hid t
  clear t
  go_wp2_with fail
  go_ret
  exact ⟨rfl, TF.out⟩

set_option maxHeartbeats 2000000 in
set_option maxRecDepth 100000 in
theorem plays_any (G : Int) (a : Option Addr) (n cap : Nat) (gs : List Int) (oa : Option Addr) (len ocap : Nat) (z : Nat → OpR) (w : World) (h : ¬ 100 < G) (hn : ¬ 20 < (n : Int)) (hi : IsInts w a n gs) (ho : IsOps w oa len z) :
    Calls Try.prog 4 #[.int .i64 G, .slice a n cap, .slice oa len ocap] w fun e w' => e = .returned (.bool true) ∧ Turns (fun _ => False) w w' := by
  have CN := St.new (Turns.refl (fun _ => False) w) G a n cap gs (by omega) (by omega) hi
  go_enter Try.func4, Try.ntmps4
  go_wp2_with fail
  refine CN.mono ?_
  clear CN
  rintro e w1 ⟨rfl, v, S⟩
  generalize w.heap.size = b at S
  have CR := ref_any G a n cap gs w1 (by omega) (by omega) (hi.later S.turns)
  go_wp2_with fail
  refine CR.mono ?_
  clear CR
  rintro e w2 ⟨⟨vl, rfl, JL⟩, T2⟩
  have P0 : Pl w w2 b v vl (jobs G gs) (jobs G gs) := ⟨S.then T2, View.base JL S.turns.size, fun x hx => by
    have h1 := View.low JL x hx
    have h2 := S.lt
    refine ⟨by omega, fun e => ?_⟩
    have := View.lt S.rb.jobs x e
    omega⟩
  have L0 : (jobs G gs).length ≤ 40 := by
    have : gn G ≤ 13 := by unfold gn; omega
    have h1 := hi.1
    simp [jobs, gj_length]; omega
  have HP := Lib.hid P0
  have HL := Lib.hid L0
  clear P0 L0 S JL T2
  go_wp2_with fail
  go_loopw [8, 9] (fun lv iv wr => ∃ (i : Nat) (v : Value) (js : List J), i ≤ 60 ∧ iv = .int .i64 i ∧ js.length ≤ 40 + i ∧ Pl w wr b v lv js js)
    (fun _ iv _ => 60 - (intOf iv).toNat)
  case atStart => exact ⟨0, v, jobs G gs, by omega, rfl, HL.out, HP.out⟩
  case round =>
    clear HL HP
    obtain ⟨i, v, js, hi60, rfl, hjl, P⟩ := hrel
    by_cases hlt : i < len ∧ i < 60
    · obtain ⟨hlt1, hlt2⟩ := hlt
      obtain ⟨ob, ooff, rfl, hob, hops⟩ := ho (by omega)
      obtain ⟨o1, o2⟩ := hops i hlt1
      have o1 := P.st.turns.cell o1 (fun x => x)
      have o2 : wr.cell? ⟨ob, ooff + i * 2 + 1, none⟩ = _ := P.st.turns.cell o2 (fun x => x)
      have hops2 : ∀ w', Turns (fun _ => False) w w' → w'.cell? ⟨ob, ooff + i * 2 + 1, none⟩ = some (.int .i64 (z i).g) := fun w' t => t.cell (hops i hlt1).2 (fun x => x)
      clear hops
      generalize z i = op at o1 o2 hops2
      obtain ⟨kd, g⟩ := op
      simp only at o1 o2 hops2
      have HO := Lib.hid hops2
      clear hops2
      obtain ⟨r, hr⟩ : ∃ r, kd.tmod 4 = r := ⟨_, rfl⟩
      have hr1 : -4 < r := by subst hr; have := Int.lt_tmod_of_pos kd (show (0 : Int) < 4 by decide); omega
      have hr2 : r < 4 := by subst hr; exact Int.tmod_lt_of_pos kd (by decide)
      obtain ⟨m, hm⟩ : ∃ m, (r + 4).tmod 4 = m := ⟨_, rfl⟩
      by_cases hm3 : m < 3
      · clear o2
        obtain ⟨la, lc, hlv⟩ := View.val P.jl
        subst hlv
        cases js with
        | nil =>
          have C := P.end
          clear P
          go_wp2_with fail
          refine C.mono ?_
          clear C
          rintro e w3 ⟨rfl, P3⟩
          obtain ⟨w4, hw4⟩ : ∃ w4, w3.alloc (.cells #[.int .i64 0, .int .i64 0, .int .i64 0] 28) = w4 := ⟨_, rfl⟩
          have R4 := row_new w3 28 [.int .i64 0, .int .i64 0, .int .i64 0]
          have P4 := P3.then ((Turns.refl (fun _ => False) w3).alloc (.cells #[.int .i64 0, .int .i64 0, .int .i64 0] 28))
          rw [hw4] at P4
          simp only [hw4] at R4
          have c0 := R4.cell 0 _ rfl
          have c1 := R4.cell 1 _ rfl
          have c2 := R4.cell 2 _ rfl
          have HP := Lib.hid P4
          have HW := Lib.hid hw4
          clear P3 P4 R4 hw4
          go_wp2_with fail
          rw [HW.out]
          clear HW
          go_quiet (fail)
          have P5 := HP.out.then (drewN_turns w4 nq)
          have CL := P5.st.left
          have HP5 := Lib.hid P5
          clear P5 HP c0 c1 c2
          go_wp2_with fail
          refine CL.mono ?_
          rintro e w6 ⟨rfl, rfl⟩
          go_wp2_with fail
          go_roundw
          case rel => exact ⟨i + 1, v, [], by omega, by go_num, by simp, HP5.out⟩
          case measure => simp [intOf]; omega
        | cons j js =>
          have C := P.next
          have hcl : (j :: js).length = js.length + 1 := rfl
          clear P
          go_wp2_with fail
          refine C.mono ?_
          clear C
          rintro e w3 ⟨rfl, v3, P3⟩
          obtain ⟨w4, hw4⟩ : ∃ w4, w3.alloc (.cells #[.int .i64 j.g, .int .i64 j.f, .int .i64 j.t] 28) = w4 := ⟨_, rfl⟩
          have R4 := row_new w3 28 [.int .i64 j.g, .int .i64 j.f, .int .i64 j.t]
          have P4 := P3.then ((Turns.refl (fun _ => False) w3).alloc (.cells #[.int .i64 j.g, .int .i64 j.f, .int .i64 j.t] 28))
          rw [hw4] at P4
          simp only [hw4] at R4
          have c0 := R4.cell 0 _ rfl
          have c1 := R4.cell 1 _ rfl
          have c2 := R4.cell 2 _ rfl
          obtain ⟨lb, lo, lc', hlv, _, hgs, hcap, hmx, _, hcell⟩ := View.cells P4.jl (by simp)
          simp only [Value.slice.injEq] at hlv
          obtain ⟨rfl, _, rfl⟩ := hlv
          have l0 : w4.cell? ⟨lb, lo, none⟩ = some (.int .i64 j.g) := hcell 0 _ rfl
          have l1 := hcell 1 _ rfl
          have l2 := hcell 2 _ rfl
          have HP := Lib.hid P4
          have HW := Lib.hid hw4
          clear P3 P4 R4 hw4 hcell
          go_wp2_with fail
          rw [HW.out]
          clear HW
          go_quiet (fail)
          have P5 := HP.out.then (drewN_turns w4 nq)
          have CL := P5.st.left
          have tl := View.tail (c := jc j) (cs := flat js) (n := js.length) P5.jl rfl
          have HT := Lib.hid tl
          have HP5 := Lib.hid P5
          clear P5 HP c0 c1 c2 l0 l1 l2 tl
          by_cases h1 : lc = 1
          · obtain ⟨e0, e1, e2⟩ := HT.out.1 h1
            have js0 : js = [] := List.eq_nil_of_length_eq_zero e0
            subst js0
            have PN : Pl w (w4.drewN nq) b v3 (.slice (some ⟨lb, lo, none⟩) 0 0) [] [] := ⟨HP5.out.st, e2, fun x hx => HP5.out.apart x hx⟩
            have HPN := Lib.hid PN
            clear PN e0 e1 e2 HP5 HT
            go_wp2_with fail
            refine CL.mono ?_
            rintro e w6 ⟨rfl, rfl⟩
            go_wp2_with fail
            go_roundw
            case rel => exact ⟨i + 1, v3, [], by omega, by go_num, by omega, HPN.out⟩
            case measure => simp [intOf]; omega
          · have PN : Pl w (w4.drewN nq) b v3 (.slice (some ⟨lb, lo + 3, none⟩) js.length (lc - 1)) js js := ⟨HP5.out.st, HT.out.2 h1, fun x hx => HP5.out.apart x hx⟩
            have HPN := Lib.hid PN
            clear PN HP5 HT
            go_wp2_with fail
            refine CL.mono ?_
            rintro e w6 ⟨rfl, rfl⟩
            go_wp2_with fail
            go_roundw
            case rel => exact ⟨i + 1, v3, js, by omega, by go_num, by omega, HPN.out⟩
            case measure => simp [intOf]; omega
      · by_cases hg : g < 0
        · have HP := Lib.hid P.st.turns
          clear P
          go_wp2_with fail
          refine (told_any _).mono ?_
          rintro e w3 ⟨rfl, T⟩
          have HT := Lib.hid (HP.out.then T)
          clear T HP
          go_wp2_with fail
          go_ret
          exact ⟨rfl, HT.out⟩
        · obtain ⟨la, lc, hlv⟩ := View.val P.jl
          subst hlv
          have C := P.add g (by omega)
          clear P
          go_wp2_with fail
          refine C.mono ?_
          clear C
          rintro e w3 ⟨rfl, v3, P3⟩
          have HP := Lib.hid P3
          clear P3 o1 o2
          go_wp2_with fail
          go_loopw [12, 13] (fun ib kv wr2 => ∃ k : Nat, k ≤ js.length ∧ kv = .int .i64 (k : Int) ∧ ib = .bool (hasG (js.take k) g) ∧ Pl w wr2 b v3 (.slice la js.length lc) (added js g) js)
            (fun _ kv _ => js.length - (intOf kv).toNat)
          case atStart => exact ⟨0, by omega, rfl, by simp [hasG], HP.out⟩
          case round =>
            clear HP
            obtain ⟨k, hk, rfl, rfl, P⟩ := hrel
            by_cases hlt : k < js.length
            · have HG := Lib.hid (hasG_succ js g k hlt)
              have o2 := HO.out _ P.st.turns
              obtain ⟨lb, lo, lc', hlv, _, hgs, hcap, hmx, _, hcell⟩ := View.cells P.jl (by omega)
              simp only [Value.slice.injEq] at hlv
              obtain ⟨rfl, _, rfl⟩ := hlv
              have x0 := hcell _ _ (flat_at js k hlt).1
              have HP := Lib.hid P
              clear P hcell
              cases hb : hasG (js.take k) g with
              | true =>
                rw [hb] at HG
                have HB := Lib.hid hb
                clear hb
                go_wp2_with fail
                go_quiet (fail)
                have HP5 := Lib.hid (HP.out.then (drewN_turns _ nq))
                go_wp2_with fail
                go_roundw
                case rel => exact ⟨k + 1, by omega, by go_num, by rw [HG.out]; rfl, HP5.out⟩
                case measure => simp [intOf]; omega
              | false =>
                rw [hb] at HG
                have HB := Lib.hid hb
                clear hb
                generalize (js.getD k default).g = gg at x0 HG
                go_wp2_with fail
                go_quiet (fail)
                have HP5 := Lib.hid (HP.out.then (drewN_turns _ nq))
                go_wp2_with fail
                go_roundw
                case rel => exact ⟨k + 1, by omega, by go_num, by rw [HG.out]; rfl, HP5.out⟩
                case measure => simp [intOf]; omega
            · have hke : k = js.length := by omega
              subst hke
              have ht : js.take js.length = js := List.take_of_length_le (Nat.le_refl _)
              rw [ht]
              have o2 := HO.out _ P.st.turns
              cases hb : hasG js g with
              | true =>
                have he : added js g = js := by simp [added, hb]
                rw [he] at P
                have CL := P.st.left
                have HP := Lib.hid P
                clear P he hb
                go_wp2_with fail
                refine CL.mono ?_
                rintro e w6 ⟨rfl, rfl⟩
                go_wp2_with fail
                go_roundw
                case rel => exact ⟨i + 1, v3, js, by omega, by go_num, by omega, HP.out⟩
                case measure => simp [intOf]; omega
              | false =>
                have he : added js g = js ++ [st g] := by simp [added, hb]
                rw [he] at P
                have zD : w.heap.size ≤ wr.heap.size := P.st.turns.size
                have zb : b < wr.heap.size := P.st.lt
                have zv := View.lt P.st.rb.jobs
                have hob' : ob < wr.heap.size := Nat.lt_of_lt_of_le hob zD
                have HP := Lib.hid P
                have HZ := Lib.hid zv
                clear P he hb zv
                obtain ⟨ti, hti, hz0, hz1, hz2⟩ := info_parts Try.info28
                go_wp2_with fail
                go_region_law (first
                  | (refine step_append_view rfl (.tmp 117) (.tmp 118) 34 28 3 24 _ ti rfl Try.underlying34 hti hz0 hz1 hz2 rfl w.heap.size (.slice (some ⟨_, 0, none⟩) 0 0) (.slice la js.length lc) 0 js.length [] (flat js) rfl rfl (View.nil _ _ _ _ _ (fun ad had => by cases had; simp; omega)) (View.src Try.underlying34 (HP.out.then (by repeat (first | exact Turns.refl _ _ | refine Turns.alloc ?_ _ | refine Turns.drew ?_))).jl) (by unfold maxLen; omega) (by omega) (by simp; omega) ?_
                     intro v4 w4 hv4 hg4 hl4
                     have KA := fun q u hc hne => hg4.turns.cell (a := q) (v := u) hc hne
                     have TA : Turns (fun _ => False) wr w4 := Turns.trans (by repeat (first | exact Turns.refl _ _ | refine Turns.alloc ?_ _ | refine Turns.drew ?_)) hg4.turns (fun _ x _ => x) (fun j x hj => by simp [Value.ownBlock] at x; omega)
                     have LA : ∀ x, v4.ownBlock = some x → wr.heap.size ≤ x := fun x hx => (hl4 x hx).elim (fun e => by simp [Value.ownBlock] at e; omega) (fun e => Nat.le_trans (Turns.size (D := fun _ => False) (by repeat (first | exact Turns.refl _ _ | refine Turns.alloc ?_ _ | refine Turns.drew ?_))) e)
                     have oA := TA.cell o2 (fun x => x)
                     have sA := TA.size
                     have HTA := Lib.hid TA
                     have HLA := Lib.hid LA
                     have HKA := Lib.hid KA
                     have HV4 := Lib.hid hv4
                     rw [List.nil_append, Nat.zero_add] at HV4
                     clear TA LA KA hv4 hg4 hl4)
                  | (refine step_append_job rfl (.tmp 119) (.tmp 126) rfl w.heap.size v4 js ⟨_, 0, none⟩ 1 (st g) rfl rfl (by first | exact HV4.out | exact View.later HV4.out ((Turns.refl (fun _ => False) _).alloc _) (fun _ _ x => x)) (by first | (simp [Addr.add, st]; done) | exact HKA.out _ _ (by simp [Addr.add, st]) (by simp [Value.ownBlock, Addr.add])) (by first | (simp [Addr.add, st]; done) | exact HKA.out _ _ (by simp [Addr.add, st]) (by simp [Value.ownBlock, Addr.add])) (by first | (simp [Addr.add, st]; done) | exact HKA.out _ _ (by simp [Addr.add, st]) (by simp [Value.ownBlock, Addr.add])) (by omega) (by first | omega | (simp; omega)) ?_
                     intro v5 w5 hv5 hg5 hl5
                     have TB : Turns (fun _ => False) wr w5 := Turns.trans (by first | exact HTA.out | exact HTA.out.alloc _) hg5.turns (fun _ x _ => x) (fun j x hj => by have := HLA.out j x; omega)
                     have LB : ∀ x, v5.ownBlock = some x → wr.heap.size ≤ x := fun x hx => (hl5 x hx).elim (fun e => HLA.out x e) (fun e => Nat.le_trans (Turns.size (D := fun _ => False) (by first | exact HTA.out | exact HTA.out.alloc _)) e)
                     have PN : Pl w w5 b v3 v5 (js ++ [st g]) (js ++ [st g]) := ⟨HP.out.st.then TB, hv5, fun x hx => ⟨by have := LB x hx; omega, fun e => by have := LB x hx; have := HZ.out x e; omega⟩⟩
                     obtain ⟨ao5, cap5, hval⟩ : ∃ ao cap, v5 = .slice ao (js.length + 1) cap := by
                       have := View.val hv5
                       rw [List.length_append] at this
                       exact this
                     subst hval
                     have HPN := Lib.hid PN
                     clear PN TB LB hv5 hg5 hl5 HTA HLA HKA HV4))
                all_goals
                  have CL := HPN.out.st.left
                  have hjl2 : (js ++ [st g]).length ≤ 40 + (i + 1) := by simp; omega
                  have HJ := Lib.hid hjl2
                  clear hjl2
                  rw [List.length_append] at CL
                  go_wp2_with fail
                  refine CL.mono ?_
                  rintro e w6 ⟨rfl, rfl⟩
                  go_wp2_with fail
                  go_roundw
                  case rel => exact ⟨i + 1, v3, js ++ [st g], by omega, by go_num, HJ.out, HPN.out⟩
                  case measure => simp [intOf]; omega
    · have HP := Lib.hid P.st.turns
      clear P
      by_cases h1 : i < len
      · have h2 : i = 60 := by omega
        subst h2
        clear hlt
        go_wp2_with fail
        refine (told_any _).mono ?_
        rintro e w3 ⟨rfl, T⟩
        have HT := Lib.hid (HP.out.then T)
        clear T HP
        go_wp2_with fail
        go_ret
        exact ⟨rfl, HT.out⟩
      · clear hlt
        go_wp2_with fail
        refine (told_any _).mono ?_
        rintro e w3 ⟨rfl, T⟩
        have HT := Lib.hid (HP.out.then T)
        clear T HP
        go_wp2_with fail
        go_ret
        exact ⟨rfl, HT.out⟩

theorem plays_walk (a0 : Int) (_w0 : (Lit.int .i64 a0).wf = true) (a1 : Option Addr) (n1 c1 : Nat) (z1 : List Int) {w : World} (h1 : IsInts w a1 n1 z1) (a2 : Option Addr) (n2 c2 : Nat) (z2 : Nat → OpR) (h2 : IsOps w a2 n2 z2) :
    Calls Try.prog 4 #[.int .i64 a0, .slice a1 n1 c1, .slice a2 n2 c2] w fun e w' => e = .returned (.bool true) ∧ Below w.heap.size w w' := by
  by_cases hG : 100 < a0
  · exact (plays_bad1 a0 a1 n1 c1 _ w hG).mono fun _ _ ⟨he, ht⟩ => ⟨he, ht.toBelow (Nat.le_refl _) fun _ _ x => x⟩
  · by_cases hn : 20 < (n1 : Int)
    · exact (plays_bad2 a0 a1 n1 c1 _ w hG hn).mono fun _ _ ⟨he, ht⟩ => ⟨he, ht.toBelow (Nat.le_refl _) fun _ _ x => x⟩
    · exact (plays_any a0 a1 n1 c1 z1 a2 n2 c2 z2 w hG hn h1 h2).mono fun _ _ ⟨he, ht⟩ => ⟨he, ht.toBelow (Nat.le_refl _) fun _ _ x => x⟩
end Go.Proofs.Ytpbpnoohbfchgaa
