/- code: May by contract. -/
import Derived.Test.YtedgeoigapilnaaPrg
namespace Go.Proofs.Ytedgeoigapilnaa
open Go.RowKit

/-- The instructions of one function, n of the program ahead of them: the number of the first that may not be. -/
def scanL (g f s : Int) : List In → Int → Except Int Int
  | [], n => .ok n
  | x :: r, n => if 0 ≤ wrongI g f s x then .error (n + 1) else scanL g f s r (n + 1)
def scanF (g f : Int) : List (List In) → Int → Except Int Int
  | [], n => .ok n
  | l :: r, n => match scanL g f l.length l n with
    | .error e => .error e
    | .ok n' => scanF g f r n'
def sizeB (l : List In) : Bool := decide (1 ≤ l.length) && decide (l.length ≤ 64)
/-- What May answers. -/
def mayI (p : Pr) : Int :=
  if p.fs.length < 1 ∨ 16 < p.fs.length ∨ p.g < 0 ∨ 32 < p.g then 1 else
  if p.fs.all sizeB = false then 1 else
  match scanF p.g p.fs.length p.fs 1 with
  | .error e => e
  | .ok _ => 0

theorem all_bad {fs : List (List In)} {k : Nat} {l : List In} (h : fs[k]? = some l) (hb : sizeB l = false) : fs.all sizeB = false := by
  rw [List.all_eq_false]
  exact ⟨l, List.mem_of_getElem? h, by simp [hb]⟩
theorem all_step {fs : List (List In)} {k : Nat} {l : List In} (h : fs[k]? = some l) (hb : sizeB l = true) (ha : (fs.take k).all sizeB = true) : (fs.take (k + 1)).all sizeB = true := by
  rw [List.take_add_one, h, List.all_append, ha]
  simp [hb]
theorem mayI_size {g : Int} {fs : List (List In)} (hb : fs.all sizeB = false) : mayI ⟨g, fs⟩ = 1 := by
  simp only [mayI, hb, if_true, ite_self]
theorem mayI_err {g e : Int} {fs : List (List In)} (h : ¬ (fs.length < 1 ∨ 16 < fs.length ∨ g < 0 ∨ 32 < g)) (hb : fs.all sizeB = true) (hr : scanF g fs.length fs 1 = .error e) : mayI ⟨g, fs⟩ = e := by
  simp only [mayI, hb]
  rw [if_neg h]
  simp [hr]
theorem mayI_none {g n : Int} {fs : List (List In)} (h : ¬ (fs.length < 1 ∨ 16 < fs.length ∨ g < 0 ∨ 32 < g)) (hb : fs.all sizeB = true) (hr : scanF g fs.length fs 1 = .ok n) : mayI ⟨g, fs⟩ = 0 := by
  simp only [mayI, hb]
  rw [if_neg h]
  simp [hr]
theorem scanF_step {g f : Int} {fs : List (List In)} {k : Nat} {l : List In} (h : fs[k]? = some l) (n : Int) : scanF g f (fs.drop k) n = match scanL g f l.length l n with | .error e => .error e | .ok n' => scanF g f (fs.drop (k + 1)) n' := by
  have hk : k < fs.length := by
    rcases Nat.lt_or_ge k fs.length with h' | h'
    · exact h'
    · rw [List.getElem?_eq_none h'] at h; cases h
  rw [List.drop_eq_getElem_cons hk]
  rw [List.getElem?_eq_getElem hk] at h
  cases h
  rfl
theorem scanF_err {g f n e : Int} {fs : List (List In)} {k : Nat} {l : List In} (h : fs[k]? = some l) (hr : scanL g f l.length l n = .error e) : scanF g f (fs.drop k) n = .error e := by
  rw [scanF_step h, hr]
theorem scanF_ok {g f n n' : Int} {fs : List (List In)} {k : Nat} {l : List In} (h : fs[k]? = some l) (hr : scanL g f l.length l n = .ok n') : scanF g f (fs.drop k) n = scanF g f (fs.drop (k + 1)) n' := by
  rw [scanF_step h, hr]
theorem scanL_step {g f s : Int} {l : List In} {k : Nat} {x : In} (h : l[k]? = some x) (n : Int) : scanL g f s (l.drop k) n = if 0 ≤ wrongI g f s x then .error (n + 1) else scanL g f s (l.drop (k + 1)) (n + 1) := by
  have hk : k < l.length := by
    rcases Nat.lt_or_ge k l.length with h' | h'
    · exact h'
    · rw [List.getElem?_eq_none h'] at h; cases h
  rw [List.drop_eq_getElem_cons hk]
  rw [List.getElem?_eq_getElem hk] at h
  cases h
  rfl
theorem ret_int {k : IntKind} {a b : Int} (h : a = b) : Ending.returned (.int k a) = .returned (.int k b) := by rw [h]

set_option maxHeartbeats 2000000 in
set_option maxRecDepth 100000 in
theorem may_any (p : Pr) (v : Value) (w : World) (wg : (Lit.int .i64 p.g).wf = true) (F : Funcs w v p.fs) :
    Calls Try.prog 12 #[.agg #[.int .i64 p.g, v]] w fun e w' => e = .returned (.int .i64 (mayI p)) ∧ Turns (fun _ => False) w w' := by
  obtain ⟨g, fs⟩ := p
  simp only at F wg
  obtain ⟨hmax, ao, cap, rfl, hF⟩ := F
  have hNN : fs.length = fs.length := rfl
  generalize hN : fs.length = N at hmax ⊢
  obtain ⟨w1, hw1⟩ : ∃ w1, w.alloc (.cells #[.int .i64 g, .slice ao N cap] 24) = w1 := ⟨_, rfl⟩
  have R1 : Row w1 w.heap.size 24 [.int .i64 g, .slice ao N cap] := by subst hw1; exact heap_new rfl
  have T1 : Turns (fun _ => False) w w1 := by subst hw1; exact (Turns.refl _ _).alloc _
  have H1 := Lib.hid hw1
  have HN := Lib.hid hN
  have HF := Lib.hid hF
  have c0 := R1.cell 0 _ rfl
  have c1 := R1.cell 1 _ rfl
  clear hw1 hN hF hNN
  unfold maxLen at hmax
  by_cases h1 : (N : Int) < 1
  · have d1 : decide ((N : Int) < 1) = true := by simpa using h1
    have hs : mayI ⟨g, fs⟩ = 1 := by simp only [mayI]; rw [if_pos (by left; rw [HN.out]; omega)]
    have HS := Lib.hid hs
    clear hs h1
    go_enter Try.func12, Try.ntmps12
    go_wp2_with fail
    go_ret
    exact ⟨ret_int HS.out.symm, H1.out ▸ T1⟩
  have d1 : decide ((N : Int) < 1) = false := by simpa using h1
  by_cases h2 : (16 : Int) < (N : Int)
  · have d2 : decide ((16 : Int) < (N : Int)) = true := by simpa using h2
    have hs : mayI ⟨g, fs⟩ = 1 := by simp only [mayI]; rw [if_pos (by right; left; rw [HN.out]; omega)]
    have HS := Lib.hid hs
    clear hs h1 h2
    go_enter Try.func12, Try.ntmps12
    go_wp2_with fail
    go_ret
    exact ⟨ret_int HS.out.symm, H1.out ▸ T1⟩
  have d2 : decide ((16 : Int) < (N : Int)) = false := by simpa using h2
  by_cases h3 : g < 0
  · have d3 : decide (g < 0) = true := by simpa using h3
    have hs : mayI ⟨g, fs⟩ = 1 := by simp only [mayI]; rw [if_pos (by right; right; left; omega)]
    have HS := Lib.hid hs
    clear hs h1 h2 h3
    go_enter Try.func12, Try.ntmps12
    go_wp2_with fail
    go_ret
    exact ⟨ret_int HS.out.symm, H1.out ▸ T1⟩
  have d3 : decide (g < 0) = false := by simpa using h3
  by_cases h4 : (32 : Int) < g
  · have d4 : decide ((32 : Int) < g) = true := by simpa using h4
    have hs : mayI ⟨g, fs⟩ = 1 := by simp only [mayI]; rw [if_pos (by right; right; right; omega)]
    have HS := Lib.hid hs
    clear hs h1 h2 h3 h4
    go_enter Try.func12, Try.ntmps12
    go_wp2_with fail
    go_ret
    exact ⟨ret_int HS.out.symm, H1.out ▸ T1⟩
  have d4 : decide ((32 : Int) < g) = false := by simpa using h4
  have hN16 : N ≤ 16 := by omega
  have HT1 := Lib.hid T1
  clear T1 hmax
  go_enter Try.func12, Try.ntmps12
  go_wp2_with fail
  rw [H1.out]
  clear H1 d1 d2 d3 d4
  go_loop [33] (fun kv => ∃ k : Nat, k ≤ N ∧ kv = .int .i64 (k : Int) ∧ Hid ((fs.take k).all sizeB = true)) (fun kv => N - (intOf kv).toNat)
  case atStart => exact ⟨0, by omega, rfl, Lib.hid rfl⟩
  case round =>
    obtain ⟨k, hk, rfl, hall⟩ := hrel
    by_cases hlt : k < N
    · obtain ⟨l, hl⟩ : ∃ l, fs[k]? = some l := ⟨_, List.getElem?_eq_getElem (by rw [HN.out]; exact hlt)⟩
      obtain ⟨b, o, u, rfl, hc, ⟨hLm, ao', cap', rfl, hI⟩⟩ := HF.out k l hl
      have hc1 := HT1.out.cell hc (fun x => x)
      have hLL : l.length = l.length := rfl
      generalize hL : l.length = L at hc1 hLm
      have HL := Lib.hid hL
      have Hl := Lib.hid hl
      clear hL hLL hI hc hl
      by_cases h5 : (L : Int) < 1
      · have d5 : decide ((L : Int) < 1) = true := by simpa using h5
        have HS := Lib.hid (mayI_size (g := g) (all_bad Hl.out (by simp [sizeB]; rw [HL.out]; omega)))
        clear h5
        go_wp2_with fail
        go_ret
        exact ⟨ret_int HS.out.symm, HT1.out⟩
      have d5 : decide ((L : Int) < 1) = false := by simpa using h5
      by_cases h6 : (64 : Int) < (L : Int)
      · have d6 : decide ((64 : Int) < (L : Int)) = true := by simpa using h6
        have HS := Lib.hid (mayI_size (g := g) (all_bad Hl.out (by simp [sizeB]; rw [HL.out]; omega)))
        clear h5 h6
        go_wp2_with fail
        go_ret
        exact ⟨ret_int HS.out.symm, HT1.out⟩
      have d6 : decide ((64 : Int) < (L : Int)) = false := by simpa using h6
      have HA := Lib.hid (all_step Hl.out (by simp [sizeB]; rw [HL.out]; omega) hall.out)
      clear h5 h6
      go_wp2_with fail
      go_round
      case rel => exact ⟨k + 1, by omega, by go_num, HA⟩
      case measure => simp [intOf]; omega
    · obtain rfl : k = N := by omega
      have hA := hall.out
      rw [← HN.out, List.take_length] at hA
      have HA := Lib.hid hA
      clear hA hall
      go_wp2_with fail
      go_loopw [5, 49] (fun nv kv wr => ∃ (j n : Nat), j ≤ k ∧ kv = .int .i64 (j : Int) ∧ nv = .int .i64 (n : Int) ∧ n ≤ 1 + 64 * j ∧ Hid (scanF g k (fs.drop j) n = scanF g k fs 1) ∧ Turns (fun _ => False) w1 wr)
        (fun _ kv _ => k - (intOf kv).toNat)
      case atStart => exact ⟨0, 1, by omega, rfl, rfl, by omega, Lib.hid rfl, Turns.refl _ _⟩
      case round =>
        obtain ⟨j, n, hj, rfl, rfl, hn, hsp, T⟩ := hrel
        have c1 := T.cell c1 (fun x => x)
        have c0 := T.cell c0 (fun x => x)
        by_cases hlt : j < k
        · obtain ⟨l, hl⟩ : ∃ l, fs[j]? = some l := ⟨_, List.getElem?_eq_getElem (by rw [HN.out]; exact hlt)⟩
          obtain ⟨b, o, u, rfl, hc, ⟨hLm, ao', cap', rfl, hI⟩⟩ := HF.out j l hl
          have hc1 := (HT1.out.then T).cell hc (fun x => x)
          have hL64 : l.length ≤ 64 := by
            have := List.all_eq_true.1 HA.out l (List.mem_of_getElem? hl)
            simp [sizeB] at this
            omega
          have hLL : l.length = l.length := rfl
          generalize hL : l.length = L at hc1 hLm hL64
          have HL := Lib.hid hL
          have Hl := Lib.hid hl
          have HI := Lib.hid hI
          have HT := Lib.hid T
          clear hL hLL hI hc hl T
          have hbds := Lib.hid (show ¬ (fs.length < 1 ∨ 16 < fs.length ∨ g < 0 ∨ 32 < g) by rw [HN.out]; omega)
          have hkk : (Lit.int .i64 (k : Int)).wf = true := WalkArith.wf_i64 (by omega)
          have hLw : (Lit.int .i64 (L : Int)).wf = true := WalkArith.wf_i64 (by omega)
          go_wp2_with fail
          go_loopw [5, 55] (fun mv iv wr2 => ∃ (i m : Nat), i ≤ L ∧ iv = .int .i64 (i : Int) ∧ mv = .int .i64 (m : Int) ∧ m ≤ 1 + 64 * j + i ∧ Hid (scanL g k L (l.drop i) m = scanL g k L l n ∧ m = n + i) ∧ Turns (fun _ => False) wr wr2)
            (fun _ iv _ => L - (intOf iv).toNat)
          case atStart => exact ⟨0, n, by omega, rfl, rfl, by omega, Lib.hid ⟨rfl, rfl⟩, Turns.refl _ _⟩
          case round =>
            obtain ⟨i, m, hi, rfl, rfl, hm, hsi, TI⟩ := hrel
            have c1 := TI.cell c1 (fun x => x)
            have c0 := TI.cell c0 (fun x => x)
            by_cases hiL : i < L
            · obtain ⟨x, hx⟩ : ∃ x, l[i]? = some x := ⟨_, List.getElem?_eq_getElem (by rw [HL.out]; exact hiL)⟩
              obtain ⟨b', o', rfl, hcx⟩ := HI.out i x hx
              have T3 := (HT1.out.then HT.out).then TI
              have x0 := T3.cell (hcx 0 _ rfl) (fun x => x)
              have x1 := T3.cell (hcx 1 _ rfl) (fun x => x)
              have x2 := T3.cell (hcx 2 _ rfl) (fun x => x)
              have x3 := T3.cell (hcx 3 _ rfl) (fun x => x)
              simp only [Nat.add_zero] at x0
              have Hx := Lib.hid hx
              have HTI := Lib.hid TI
              have l0 : w.heap.size < wr.heap.size := by have := R1.lt; have := (HT.out.then TI).size; omega
              have C := wrong_all g k L x (wr.alloc (.cells #[.int .i64 x.op, .int .i64 x.a, .int .i64 x.b, .int .i64 x.c] 37)) wg hkk hLw
              clear T3 hcx hx TI
              go_wp2_with fail
              refine C.mono ?_
              clear C
              rintro e w7 ⟨rfl, T7⟩
              have HT7 := Lib.hid ((HTI.out.alloc _).then T7)
              clear T7
              by_cases hw : 0 ≤ wrongI g k L x
              · have hd : decide (0 ≤ wrongI g k L x) = true := by simpa using hw
                have HE := Lib.hid (mayI_err hbds.out HA.out (by rw [HN.out, ← hsp.out]; exact scanF_err Hl.out (by rw [HL.out, ← hsi.out.1, scanL_step Hx.out, if_pos hw])))
                clear hw
                generalize wrongI g k L x = wi at hd
                go_wp2_with fail
                go_ret
                exact ⟨ret_int HE.out.symm, (HT1.out.then HT.out).then HT7.out⟩
              · have hd : decide (0 ≤ wrongI g k L x) = false := by simpa using hw
                have HE : Hid (scanL g k L (l.drop (i + 1)) ((m : Int) + 1) = scanL g k L l n) := Lib.hid (by rw [← hsi.out.1, scanL_step Hx.out, if_neg hw])
                clear hw
                generalize wrongI g k L x = wi at hd
                go_wp2_with fail
                go_roundw
                case rel => exact ⟨i + 1, m + 1, by omega, by go_num, by go_num, by omega, Lib.hid ⟨HE.out, by have := hsi.out.2; omega⟩, HT7.out⟩
                case measure => simp [intOf]; omega
            · obtain rfl : i = L := by omega
              have HE : Hid (scanF g k (fs.drop (j + 1)) m = scanF g k fs 1) := Lib.hid (by
                rw [← hsp.out]
                refine (scanF_ok Hl.out ?_).symm
                rw [HL.out, ← hsi.out.1, ← HL.out, List.drop_length]; rfl)
              have HTI := Lib.hid (HT.out.then TI)
              have hmn : m ≤ 1 + 64 * (j + 1) := by have := hsi.out.2; omega
              clear TI
              go_wp2_with fail
              go_roundw
              case rel => exact ⟨j + 1, m, by omega, by go_num, rfl, hmn, HE, HTI.out⟩
              case measure => simp [intOf]; omega
        · obtain rfl : j = k := by omega
          have HE := Lib.hid (mayI_none (show ¬ (fs.length < 1 ∨ 16 < fs.length ∨ g < 0 ∨ 32 < g) by rw [HN.out]; omega) HA.out (by rw [HN.out, ← hsp.out, ← HN.out, List.drop_length]; rfl))
          have HT := Lib.hid (HT1.out.then T)
          clear T
          go_wp2_with fail
          go_ret
          exact ⟨ret_int HE.out.symm, HT.out⟩
end Go.Proofs.Ytedgeoigapilnaa
