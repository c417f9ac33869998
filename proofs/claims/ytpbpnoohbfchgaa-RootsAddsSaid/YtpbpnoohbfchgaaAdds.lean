/- roots: the walk of RootsAdds. -/
import Derived.Test.YtpbpnoohbfchgaaEach
namespace Go.Proofs.Ytpbpnoohbfchgaa
open Go.RowKit

theorem mod_nat (x : Int) (m : Int) (h0 : 0 < m) (h1 : m ≤ 1000) : ∃ n : Nat, 1 ≤ n ∧ (n : Int) ≤ m ∧ wrap64 (1 + wrap64 ((IntKind.u64.wrap x).tmod m)) = (n : Int) := by
  have h0' : 0 ≤ IntKind.u64.wrap x := by rw [IntKind.wrap_u64]; omega
  have e1 : (IntKind.u64.wrap x).tmod m = IntKind.u64.wrap x % m := Int.tmod_eq_emod_of_nonneg h0'
  rw [e1]
  generalize IntKind.u64.wrap x = y
  have l1 : 0 ≤ y % m := Int.emod_nonneg _ (by omega)
  have l2 : y % m < m := Int.emod_lt_of_pos _ (by omega)
  generalize y % m = z at l1 l2 ⊢
  have e2 : wrap64 z = z := by unfold wrap64; omega
  rw [e2]
  refine ⟨(1 + z).toNat, by omega, by omega, ?_⟩
  unfold wrap64
  omega

def sts (k : Nat) : List J := (up k).map st
theorem sts_length (k : Nat) : (sts k).length = k := by simp [sts, up_length]
theorem jobs_zero (k : Nat) : jobs 0 (up k) = sts k := by
  have : gn 0 = 0 := by decide
  simp [jobs, this, gj, sts]
theorem mem_sts (k : Nat) (j : J) : j ∈ sts k ↔ ∃ i : Nat, i < k ∧ j = st i := by
  simp [sts, up, eq_comm]
theorem hasG_iff (js : List J) (g : Int) : hasG js g = true ↔ ∃ j ∈ js, j.g = g := by
  simp [hasG, List.any_eq_true]
theorem added_old (k q : Nat) (h : q < k) : added (sts k) q = sts k := by
  have : hasG (sts k) q = true := (hasG_iff _ _).2 ⟨st q, (mem_sts _ _).2 ⟨q, h, rfl⟩, rfl⟩
  simp [added, this]
def L1 (k : Nat) : List J := sts k ++ [st ((k : Int) + 3)]
theorem L1_length (k : Nat) : (L1 k).length = k + 1 := by simp [L1, sts_length]
theorem added_far (k : Nat) : added (sts k) ((k : Int) + 3) = L1 k := by
  have : hasG (sts k) ((k : Int) + 3) = false := by
    rw [Bool.eq_false_iff]
    intro h
    obtain ⟨j, hj, e⟩ := (hasG_iff _ _).1 h
    obtain ⟨i, hi, rfl⟩ := (mem_sts _ _).1 hj
    simp [st] at e
    omega
  simp [added, this, L1]
theorem L1_at (k i : Nat) (h : i < k) : (L1 k).drop i = st i :: (L1 k).drop (i + 1) := by
  refine drop_at _ _ _ ?_
  unfold L1
  rw [List.getElem?_append_left (by rw [sts_length]; exact h)]
  simp [sts, up, h]
def L2 (k q : Nat) : List J := (L1 k).drop (q + 1) ++ [st q]
theorem added_again (k q : Nat) (h : q < k) : added ((L1 k).drop (q + 1)) q = L2 k q := by
  have : hasG ((L1 k).drop (q + 1)) q = false := by
    rw [Bool.eq_false_iff]
    intro hh
    obtain ⟨j, hj, e⟩ := (hasG_iff _ _).1 hh
    obtain ⟨i, hi, rfl⟩ := List.mem_iff_getElem.1 hj
    rw [List.getElem_drop] at e
    simp only [L1, List.getElem_append] at e
    split at e
    · simp [sts, up, st] at e
      omega
    · simp [st] at e
      omega
  simp [added, this, L2]
theorem L2_length (k q : Nat) (_h : q < k) : (L2 k q).length = k - q + 1 := by simp [L2, L1_length]
/-- Whom the job was that was taken last. -/
def lastG (M : List J) (p : Nat) : Int := if p = 0 then -1 else (M.getD (p - 1) default).g
theorem lastG_succ (M : List J) (p : Nat) : lastG M (p + 1) = (M.getD p default).g := by simp [lastG]
theorem lastG_end (k q : Nat) : lastG (L2 k q) (L2 k q).length = q := by
  have e : (L2 k q).length = ((L1 k).drop (q + 1)).length + 1 := by simp [L2]
  rw [e, lastG_succ]
  simp [L2, st]
theorem drop_getD (js : List J) (p : Nat) (h : p < js.length) : js.drop p = js.getD p default :: js.drop (p + 1) := drop_at _ _ _ (by simp [h])

/-- How many jobs the list has that block b holds. -/
def lenAt (w : World) (b : Nat) : Nat := match w.cell? ⟨b, 0, none⟩ with | some (.slice _ n _) => n | _ => 0
theorem St.lenAt {w w' : World} {b : Nat} {v : Value} {js : List J} (h : St w w' b v js) : lenAt w' b = js.length := by
  have c := h.rb.row.cell 0 _ rfl
  obtain ⟨ao, cap, hv⟩ := View.val h.rb.jobs
  simp [Ytpbpnoohbfchgaa.lenAt, c, hv]

set_option maxHeartbeats 1000000 in
set_option maxRecDepth 100000 in
theorem adds_any (x y : Int) (w : World) : Calls Try.prog 5 #[.int .i64 x, .int .i64 y] w fun e w' => e = .returned (.bool true) ∧ Turns (fun _ => False) w w' := by
  obtain ⟨n, hn1, hn, hx⟩ := mod_nat x 30 (by omega) (by omega)
  obtain ⟨q, hq, hy⟩ := mod_idx y n (by omega) (by omega)
  go_enter Try.func5, Try.ntmps5
  go_wp2_with fail
  rw [hx]
  have HY := Lib.hid hy
  clear hx hy
  go_loopw [6, 7] (fun vv f wr => ∃ (k : Nat), k ≤ n ∧ f = .int .i64 (k : Int) ∧ IV wr w.heap.size vv (up k) ∧ Turns (fun _ => False) w wr)
    (fun _ f _ => n - (intOf f).toNat)
  case atStart => exact ⟨0, by omega, rfl, View.zero _ _ _ _, Turns.refl _ _⟩
  case round =>
    obtain ⟨k, hk, rfl, I, T⟩ := hrel
    by_cases hlt : k < n
    · have HK := Lib.hid (up_succ k)
      have hl := up_length k
      have hz := T.size
      have ha := (Turns.refl (fun _ => False) wr).alloc (.cells #[.int .i64 (k : Int)] 3)
      have I2 := I.later ha (fun _ _ x => x)
      have HT := Lib.hid (T.then ha)
      have HL := Lib.hid I.low
      clear I T ha
      go_wp2_with (at_builtin; refine wpList_append_int rfl (.tmp 30) (.tmp 32) rfl w.heap.size u6 (up k) ⟨wr.heap.size, 0, none⟩ 1 (k : Int) rfl rfl I2 (by simp [Addr.add]) ?b1 ?b2 ?_)
      case b1 => omega
      case b2 => simp; omega
      intro v' w2 hv' hg _
      rw [← HK.out] at hv'
      have HI := Lib.hid hv'
      have hT3 := HT.out.trans hg.turns (E := fun _ => False) (fun _ x _ => x) (fun j x hj => by have := HL.out j x; omega)
      have HT3 := Lib.hid hT3
      clear hT3 hg hv' I2 HT HL hl
      go_wp2_with fail
      go_roundw
      case rel => exact ⟨k + 1, by omega, by go_num, HI.out, HT3.out⟩
      case measure => simp [intOf]; omega
    · have hke : k = n := by omega
      subst hke
      obtain ⟨ao, cap, hv, hI⟩ := I.isInts
      rw [up_length] at hv hI
      subst hv
      have C := St.new T 0 ao k cap (up k) (by omega) (by omega) hI
      rw [jobs_zero] at C
      clear I hI T hlt hk
      go_wp2_with fail
      refine C.mono ?_
      clear C
      rintro e w2 ⟨rfl, v, S⟩
      generalize wr.heap.size = b at S
      have C := S.left
      rw [sts_length] at C
      have CA := S.add q (by rw [sts_length]; omega)
      rw [added_old k q hq] at CA
      clear S
      go_wp2_with fail
      refine C.mono ?_
      rintro e w' ⟨rfl, rfl⟩
      clear C
      go_wp2_with fail
      rw [HY.out]
      clear HY
      refine CA.mono ?_
      clear CA
      rintro e w3 ⟨rfl, ⟨v3, S3, _⟩, _⟩
      have C := S3.left
      rw [sts_length] at C
      have CA := S3.add ((k : Int) + 3) (by rw [sts_length]; omega)
      rw [added_far k] at CA
      clear S3
      go_wp2_with fail
      refine C.mono ?_
      rintro e w' ⟨rfl, rfl⟩
      clear C
      go_wp2_with fail
      refine CA.mono ?_
      clear CA
      rintro e w4 ⟨rfl, ⟨v4, S4, _⟩, _⟩
      have C := S4.left
      rw [L1_length] at C
      have HS := Lib.hid S4
      clear S4
      go_wp2_with fail
      refine C.mono ?_
      rintro e w' ⟨rfl, rfl⟩
      clear C
      go_wp2_with fail
      go_loopw [10] (fun iv wr => ∃ (i : Nat) (v : Value), i ≤ q + 1 ∧ iv = .int .i64 (i : Int) ∧ St w wr b v ((L1 k).drop i))
        (fun iv _ => q + 1 - (intOf iv).toNat)
      case atStart => exact ⟨0, v4, by omega, rfl, by simpa using HS.out⟩
      case round =>
        clear HS
        obtain ⟨i, v5, hi, rfl, S⟩ := hrel
        by_cases hiq : i < q + 1
        · rw [L1_at k i (by omega)] at S
          have CN := S.next
          clear S
          have hle : (i : Int) ≤ (q : Int) := by omega
          go_wp2_with fail
          refine CN.mono ?_
          clear CN
          rintro e w5 ⟨rfl, ⟨v6, S5, _⟩, _⟩
          have S6 := S5.alloc (.cells #[.int .i64 (i : Int), .int .i64 0, .int .i64 16] 28)
          have HS := Lib.hid S6
          clear S5 S6
          simp only [st]
          go_wp2_with fail
          go_roundw
          case rel => exact ⟨i + 1, v6, by omega, by go_num, HS.out⟩
          case measure => simp [intOf]; omega
        · have hie : i = q + 1 := by omega
          subst hie
          have CA := S.add q (by rw [List.length_drop, L1_length]; omega)
          rw [added_again k q hq] at CA
          clear S
          go_wp2_with fail
          refine CA.mono ?_
          clear CA
          rintro e w5 ⟨rfl, ⟨v6, S5, _⟩, _⟩
          have C := S5.left
          have hlen := L2_length k q hq
          have hlen2 : ((L2 k q).length : Int) = (k : Int) - q - 1 + 2 := by rw [hlen]; omega
          rw [hlen2] at C
          have HS := Lib.hid S5
          have HL := Lib.hid hlen
          clear S5 hlen hlen2
          go_wp2_with fail
          refine C.mono ?_
          rintro e w' ⟨rfl, rfl⟩
          clear C
          go_wp2_with fail
          go_loopw [14] (fun lv wr => ∃ (p : Nat) (v : Value), p ≤ (L2 k q).length ∧ lv = .int .i64 (lastG (L2 k q) p) ∧ St w wr b v ((L2 k q).drop p))
            (fun _ wr => lenAt wr b)
          case atStart => exact ⟨0, v6, by omega, rfl, by simpa using HS.out⟩
          case round =>
            clear HS
            obtain ⟨p, v7, hp, rfl, S⟩ := hrel
            have M1 := Lib.hid S.lenAt
            have C := S.left
            by_cases hpl : p < (L2 k q).length
            · rw [drop_getD _ p hpl] at S C
              rw [List.length_cons] at C
              have CN := S.next
              have HG := Lib.hid (lastG_succ (L2 k q) p)
              clear S
              generalize (L2 k q).getD p default = j at C CN HG
              have hpos : (0 : Int) < ((((L2 k q).drop (p + 1)).length + 1 : Nat) : Int) := by omega
              generalize ((L2 k q).drop (p + 1)).length + 1 = len at C hpos
              go_wp2_with fail
              refine C.mono ?_
              rintro e w' ⟨rfl, rfl⟩
              clear C
              go_wp2_with fail
              refine CN.mono ?_
              clear CN
              rintro e w5 ⟨rfl, ⟨v8, S5, _⟩, _⟩
              have S6 := S5.alloc (.cells #[.int .i64 j.g, .int .i64 j.f, .int .i64 j.t] 28)
              have M2 := Lib.hid S6.lenAt
              have HS := Lib.hid S6
              clear S5 S6
              go_wp2_with fail
              go_roundw
              case rel => exact ⟨p + 1, v8, by omega, by rw [HG.out], HS.out⟩
              case measure =>
                rw [M1.out, M2.out, List.length_drop, List.length_drop]
                omega
            · have hpe : p = (L2 k q).length := by omega
              subst hpe
              rw [lastG_end]
              have hl : ((L2 k q).drop (L2 k q).length).length = 0 := by simp
              rw [hl] at C
              have HS := Lib.hid S.turns
              clear S M1 hl
              go_wp2_with fail
              refine C.mono ?_
              rintro e w' ⟨rfl, rfl⟩
              clear C
              go_wp2_with fail
              refine (next_nil _).mono ?_
              rintro e w5 ⟨rfl, T5⟩
              have HT := Lib.hid ((HS.out.then T5).alloc (.cells #[.int .i64 0, .int .i64 0, .int .i64 0] 28))
              clear T5 HS
              go_wp2_with fail
              refine (told_any _).mono ?_
              rintro e w6 ⟨rfl, T6⟩
              have HT2 := Lib.hid (HT.out.then T6)
              clear T6 HT
              go_wp2_with fail
              refine (left_nil _).mono ?_
              rintro e w7 ⟨rfl, rfl⟩
              go_wp2_with fail
              go_ret
              exact ⟨rfl, HT2.out⟩

theorem adds_walk (a0 : Int) (_w0 : (Lit.int .i64 a0).wf = true) (a1 : Int) (_w1 : (Lit.int .i64 a1).wf = true) (w : World) :
    Calls Try.prog 5 #[.int .i64 a0, .int .i64 a1] w fun e w' => e = .returned (.bool true) ∧ Below w.heap.size w w' :=
  (adds_any a0 a1 w).mono fun _ _ ⟨he, ht⟩ => ⟨he, ht.toBelow (Nat.le_refl _) fun _ _ x => x⟩
end Go.Proofs.Ytpbpnoohbfchgaa
