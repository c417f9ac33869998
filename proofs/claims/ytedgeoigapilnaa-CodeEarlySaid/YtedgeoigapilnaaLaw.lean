/- code: Decode of a program's bytes, in plain Lean: whole, cut, with more behind, with a byte of 255 where an Op stands. -/
import Derived.Test.YtedgeoigapilnaaRwrong
import Derived.Test.YtedgeoigapilnaaBytes
namespace Go.Proofs.Ytedgeoigapilnaa
open Go.RowKit

theorem getD_mid (pre post : List Int) (v : Int) (i : Nat) (h : i = pre.length) : (pre ++ v :: post).getD i 0 = v := by
  subst h
  rw [List.getD_eq_getElem?_getD, List.getElem?_append_right (Nat.le_refl _), Nat.sub_self]
  rfl
theorem byteR_mid {zs pre post : List Int} {v l m : Int} (h : zs = pre ++ v :: post) (hl : l ≤ v) (hm : v ≤ m) : byteR zs pre.length l m = .ok v := by
  unfold byteR
  rw [h, getD_mid pre post v _ rfl, if_neg (by simp), if_neg (by omega)]
theorem byteR_bad {zs pre post : List Int} {v l m : Int} (h : zs = pre ++ v :: post) (hv : v < l ∨ m < v) : byteR zs pre.length l m = .error pre.length := by
  unfold byteR
  rw [h, getD_mid pre post v _ rfl, if_neg (by simp), if_pos hv]

/-- The first k parts of x (its Op with them), 0 behind. -/
def cutI (x : In) (k : Nat) : In := match k with | 0 => in0 | 1 => ⟨x.op, 0, 0, 0⟩ | 2 => ⟨x.op, x.a, 0, 0⟩ | 3 => ⟨x.op, x.a, x.b, 0⟩ | _ => x
theorem cutI_set (x : In) (k : Nat) (h : k < 4) : setI (cutI x k) k ((encX x).getD k 0) = cutI x (k + 1) := by
  match k, h with
  | 0, _ => rfl
  | 1, _ => rfl
  | 2, _ => rfl
  | 3, _ => rfl
  | k + 4, h => omega
theorem wrongI_op {g f s : Int} {x : In} (h : ¬ 0 ≤ wrongI g f s x) : 0 ≤ x.op ∧ x.op ≤ 17 := by
  unfold wrongI at h
  split at h
  · omega
  · omega
theorem wrongI_fits {g f s : Int} {x : In} (h : ¬ 0 ≤ wrongI g f s x) : ∀ i, i < 3 → fitB g f s (pk (tabK.getD x.op.toNat (0, 0, 0)) i) (pv x i) = true := by
  obtain ⟨h0, h17⟩ := wrongI_op h
  have step : ∀ j, j < 3 → (∀ i, i < j → fitB g f s (pk (tabK.getD x.op.toNat (0, 0, 0)) i) (pv x i) = true) → fitB g f s (pk (tabK.getD x.op.toNat (0, 0, 0)) j) (pv x j) = true := by
    intro j hj hp
    cases hb : fitB g f s (pk (tabK.getD x.op.toNat (0, 0, 0)) j) (pv x j) with
    | true => rfl
    | false => have := wrongI_part h0 h17 j hj hp hb; omega
  have a := step 0 (by omega) (fun i hi => by omega)
  have b := step 1 (by omega) (fun i hi => by
    obtain rfl : i = 0 := by omega
    exact a)
  have c := step 2 (by omega) (fun i hi => by
    rcases (by omega : i = 0 ∨ i = 1) with rfl | rfl
    · exact a
    · exact b)
  intro i hi
  rcases (by omega : i = 0 ∨ i = 1 ∨ i = 2) with rfl | rfl | rfl
  · exact a
  · exact b
  · exact c
/-- A number of an instruction whose first k parts fit: above k, or none. -/
theorem wrongI_above {g f s : Int} {y : In} (h0 : 0 ≤ y.op) (h17 : y.op ≤ 17) (k : Nat) (hk : k ≤ 3) (h : ∀ i, i < k → fitB g f s (pk (tabK.getD y.op.toNat (0, 0, 0)) i) (pv y i) = true) : ¬ (0 ≤ wrongI g f s y ∧ wrongI g f s y ≤ k) := by
  have key : ∀ j, k ≤ j → j ≤ 3 → (∀ i, i < j → fitB g f s (pk (tabK.getD y.op.toNat (0, 0, 0)) i) (pv y i) = true) → ¬ (0 ≤ wrongI g f s y ∧ wrongI g f s y ≤ k) := by
    intro j
    generalize hd : 3 - j = d
    induction d generalizing j with
    | zero =>
      intro hj hj3 hp
      obtain rfl : j = 3 := by omega
      have := wrongI_none h0 h17 hp
      omega
    | succ d ih =>
      intro hj hj3 hp
      cases hb : fitB g f s (pk (tabK.getD y.op.toNat (0, 0, 0)) j) (pv y j) with
      | true =>
        refine ih (j + 1) (by omega) (by omega) (by omega) (fun i hi => ?_)
        rcases Nat.lt_or_ge i j with h' | h'
        · exact hp i h'
        · obtain rfl : i = j := by omega
          exact hb
      | false => have := wrongI_part h0 h17 j (by omega) hp hb; omega
  exact key k (Nat.le_refl _) hk h
theorem wrongI_cut {g f s : Int} {x : In} (h : ¬ 0 ≤ wrongI g f s x) (k : Nat) (hk : k < 4) : ¬ (0 ≤ wrongI g f s (cutI x (k + 1)) ∧ wrongI g f s (cutI x (k + 1)) ≤ k) := by
  obtain ⟨h0, h17⟩ := wrongI_op h
  have hf := wrongI_fits h
  match k, hk with
  | 0, _ => exact wrongI_above (y := ⟨x.op, 0, 0, 0⟩) h0 h17 0 (by omega) (fun i hi => by omega)
  | 1, _ =>
    refine wrongI_above (y := ⟨x.op, x.a, 0, 0⟩) h0 h17 1 (by omega) (fun i hi => ?_)
    obtain rfl : i = 0 := by omega
    exact hf 0 (by omega)
  | 2, _ => exact wrongI_above (y := ⟨x.op, x.a, x.b, 0⟩) h0 h17 2 (by omega) (fun i hi => by
      rcases (by omega : i = 0 ∨ i = 1) with rfl | rfl
      · exact hf 0 (by omega)
      · exact hf 1 (by omega))
  | 3, _ => exact wrongI_above (y := x) h0 h17 3 (by omega) hf
  | k + 4, h => omega

theorem encX_at (pre post : List Int) (x : In) (k : Nat) (h : k < 4) : (pre ++ (encX x ++ post)).getD (pre.length + k) 0 = (encX x).getD k 0 := by
  rw [List.getD_eq_getElem?_getD, List.getD_eq_getElem?_getD, List.getElem?_append_right (by omega), Nat.add_sub_cancel_left, List.getElem?_append_left (by simpa [encX] using h)]
theorem instR_enc {zs pre post : List Int} {g f s : Int} {x : In} (hz : zs = pre ++ (encX x ++ post)) (h : ¬ 0 ≤ wrongI g f s x) : instR zs pre.length (wrongI g f s) 4 in0 = .ok x := by
  have step : ∀ k, k < 4 → instR zs pre.length (wrongI g f s) (4 - k) (cutI x k) = instR zs pre.length (wrongI g f s) (4 - (k + 1)) (cutI x (k + 1)) := by
    intro k hk
    have hv : zs.getD (pre.length + k) 0 = (encX x).getD k 0 := by rw [hz]; exact encX_at pre post x k hk
    rw [instR_step _ _ _ _ _ hk]
    have hb : byteI zs pre.length (wrongI g f s) k (cutI x k) = .ok (cutI x (k + 1)) := by
      unfold byteI
      rw [hv, cutI_set x k hk, if_neg (by rw [hz]; simp [encX]; omega), if_neg (wrongI_cut h k hk)]
    rw [hb]
  have a := step 0 (by omega)
  have b := step 1 (by omega)
  have c := step 2 (by omega)
  have d := step 3 (by omega)
  simp only [Nat.sub_zero, Nat.zero_add] at a b c d
  exact a.trans (b.trans (c.trans d))
theorem instR_cut {zs pre : List Int} {g f s : Int} {x : In} (hz : zs = pre ++ (encX x).take 3) (h : ¬ 0 ≤ wrongI g f s x) : instR zs pre.length (wrongI g f s) 4 in0 = .error zs.length := by
  have hv : ∀ k, k < 3 → zs.getD (pre.length + k) 0 = (encX x).getD k 0 := by
    intro k hk
    rw [hz, List.getD_eq_getElem?_getD, List.getD_eq_getElem?_getD, List.getElem?_append_right (by omega), Nat.add_sub_cancel_left, List.getElem?_take, if_pos hk]
  have hl : zs.length = pre.length + 3 := by rw [hz]; simp [encX]
  have step : ∀ k, k < 3 → instR zs pre.length (wrongI g f s) (4 - k) (cutI x k) = instR zs pre.length (wrongI g f s) (4 - (k + 1)) (cutI x (k + 1)) := by
    intro k hk
    rw [instR_step _ _ _ _ _ (by omega)]
    have hb : byteI zs pre.length (wrongI g f s) k (cutI x k) = .ok (cutI x (k + 1)) := by
      unfold byteI
      rw [hv k hk, cutI_set x k (by omega), if_neg (by omega), if_neg (wrongI_cut h k (by omega))]
    rw [hb]
  have a := step 0 (by omega)
  have b := step 1 (by omega)
  have c := step 2 (by omega)
  have d : instR zs pre.length (wrongI g f s) (4 - 3) (cutI x 3) = .error zs.length := by
    rw [instR_step _ _ _ _ _ (by omega)]
    have hb : byteI zs pre.length (wrongI g f s) 3 (cutI x 3) = .error zs.length := by
      unfold byteI
      rw [if_pos (by omega)]
    rw [hb]
  simp only [Nat.sub_zero, Nat.zero_add] at a b c d
  exact a.trans (b.trans (c.trans d))
theorem instR_255 {zs pre post : List Int} {g f s : Int} (hz : zs = pre ++ 255 :: post) : instR zs pre.length (wrongI g f s) 4 in0 = .error pre.length := by
  have h := instR_step zs pre.length (wrongI g f s) 0 in0 (by omega)
  rw [Nat.sub_zero] at h
  rw [h]
  have hv : zs.getD (pre.length + 0) 0 = 255 := by rw [hz]; exact getD_mid pre post 255 _ (by omega)
  have hw : wrongI g f s (setI in0 0 255) = 0 := by unfold wrongI; rw [if_pos (by right; show (17 : Int) < 255; omega)]
  have hb : byteI zs pre.length (wrongI g f s) 0 in0 = .error pre.length := by
    unfold byteI
    rw [hv, hw, if_neg (by rw [hz]; simp), if_pos (by omega)]
    rfl
  rw [hb]

theorem instsR_enc {zs : List Int} {g f s : Int} : ∀ (l : List In) (pre post : List Int) (acc : List In) (m : Nat), zs = pre ++ (l.flatMap encX ++ post) → (∀ x ∈ l, ¬ 0 ≤ wrongI g f s x) →
    instsR zs g f s (l.length + m) pre.length acc = instsR zs g f s m (pre.length + 4 * l.length) (acc ++ l)
  | [], pre, post, acc, m, hz, h => by simp
  | x :: r, pre, post, acc, m, hz, h => by
    have hz1 : zs = pre ++ (encX x ++ (r.flatMap encX ++ post)) := by rw [hz]; simp
    have hz2 : zs = (pre ++ encX x) ++ (r.flatMap encX ++ post) := by rw [hz]; simp
    rw [show (x :: r).length + m = (r.length + m) + 1 from by simp; omega, instsR_ok (instR_enc hz1 (h x (by simp)))]
    have e : pre.length + 4 = (pre ++ encX x).length := by simp [encX]
    rw [e, instsR_enc r (pre ++ encX x) post (acc ++ [x]) m hz2 (fun y hy => h y (by simp [hy]))]
    simp only [List.append_assoc, List.cons_append, List.nil_append, List.length_cons, ← e]
    congr 1
    omega
theorem encL_length (l : List In) : (encL l).length = 1 + 4 * l.length := by
  unfold encL
  rw [List.length_cons, encX_len]
  omega
theorem funcsR_enc {zs : List Int} {g f : Int} : ∀ (fs : List (List In)) (pre post : List Int) (acc : List (List In)) (m : Nat), zs = pre ++ (fs.flatMap encL ++ post) →
    (∀ l ∈ fs, (1 ≤ l.length ∧ l.length ≤ 64) ∧ ∀ x ∈ l, ¬ 0 ≤ wrongI g f l.length x) →
    funcsR zs g f (fs.length + m) pre.length acc = funcsR zs g f m (pre.length + (fs.flatMap encL).length) (acc ++ fs)
  | [], pre, post, acc, m, hz, h => by simp
  | l :: r, pre, post, acc, m, hz, h => by
    have hz1 : zs = pre ++ (l.length : Int) :: (l.flatMap encX ++ (r.flatMap encL ++ post)) := by rw [hz]; simp [encL]
    have hz2 : zs = (pre ++ [(l.length : Int)]) ++ (l.flatMap encX ++ (r.flatMap encL ++ post)) := by rw [hz]; simp [encL]
    have hz3 : zs = (pre ++ encL l) ++ (r.flatMap encL ++ post) := by rw [hz]; simp
    obtain ⟨hs, hx⟩ := h l (by simp)
    have hb : byteR zs pre.length 1 64 = .ok (l.length : Int) := byteR_mid hz1 (by omega) (by omega)
    have hi := instsR_enc l (pre ++ [(l.length : Int)]) _ [] 0 hz2 hx
    rw [Nat.add_zero, instsR] at hi
    rw [show (pre ++ [(l.length : Int)]).length = pre.length + 1 from by simp, List.nil_append] at hi
    rw [show (l :: r).length + m = (r.length + m) + 1 from by simp; omega, funcsR_ok hb hi]
    have e : pre.length + 1 + 4 * l.length = (pre ++ encL l).length := by rw [List.length_append, encL_length]; omega
    rw [e, funcsR_enc r (pre ++ encL l) post (acc ++ [l]) m hz3 (fun y hy => h y (by simp [hy]))]
    simp only [List.append_assoc, List.cons_append, List.nil_append, List.flatMap_cons, List.length_append]
    congr 1
    omega

theorem Good.funcs {p : Pr} (h : Good p) : ∀ l ∈ p.fs, (1 ≤ l.length ∧ l.length ≤ 64) ∧ ∀ x ∈ l, ¬ 0 ≤ wrongI p.g p.fs.length l.length x := fun l hl => ⟨h.size l hl, h.inst l hl⟩
/-- The head of a program's bytes. -/
theorem dec_head {p : Pr} (h : Good p) {zs post : List Int} (hz : zs = (p.fs.length : Int) :: p.g :: post) : byteR zs 0 1 16 = .ok (p.fs.length : Int) ∧ byteR zs 1 0 32 = .ok p.g := by
  have h1 := h.n1; have h2 := h.n16; have h3 := h.g0; have h4 := h.g32
  exact ⟨byteR_mid (pre := []) hz (by omega) (by omega), byteR_mid (pre := [(p.fs.length : Int)]) hz (by omega) (by omega)⟩
theorem encI_length (p : Pr) : (encI p).length = 2 + (p.fs.flatMap encL).length := by unfold encI; simp; omega
theorem dec_whole {p : Pr} (h : Good p) (post : List Int) : ∃ j, j = (encI p).length ∧ funcsR (encI p ++ post) p.g p.fs.length p.fs.length 2 [] = .ok (p.fs, j) := by
  have hz : encI p ++ post = [(p.fs.length : Int), p.g] ++ (p.fs.flatMap encL ++ post) := by simp [encI]
  have hf := funcsR_enc p.fs _ _ [] 0 hz h.funcs
  rw [Nat.add_zero, funcsR, List.nil_append] at hf
  refine ⟨_, ?_, hf⟩
  rw [encI_length]
  rfl
/-- Decode of Encode is the program. -/
theorem decR_back {p : Pr} (h : Good p) : decR (encI p) = .ok p := by
  obtain ⟨j, hj, hf⟩ := dec_whole h []
  rw [List.append_nil] at hf
  obtain ⟨a, b⟩ := dec_head h (zs := encI p) rfl
  exact decR_ok a b hf (by omega)
/-- One byte more. -/
theorem decR_more1 {p : Pr} (h : Good p) (c : Int) : decR (encI p ++ [c]) = .error (encI p).length := by
  obtain ⟨j, hj, hf⟩ := dec_whole h [c]
  obtain ⟨a, b⟩ := dec_head h (zs := encI p ++ [c]) (post := p.fs.flatMap encL ++ [c]) (by simp [encI])
  rw [← hj]
  exact decR_more a b hf (by simp; omega)
/-- What is wrong in an instruction of the program is told: with all ahead of it right. -/
theorem decR_at {p : Pr} (h : Good p) {fs1 fs2 : List (List In)} {l l1 l2 : List In} {x : In} (hfs : p.fs = fs1 ++ l :: fs2) (hl : l = l1 ++ x :: l2) {zs post : List Int} {e : Nat}
    (hz : zs = ((p.fs.length : Int) :: p.g :: fs1.flatMap encL) ++ ((l.length : Int) :: (l1.flatMap encX ++ post)))
    (he : instR zs (2 + (fs1.flatMap encL).length + 1 + 4 * l1.length) (wrongI p.g p.fs.length l.length) 4 in0 = .error e) : decR zs = .error e := by
  obtain ⟨a, b⟩ := dec_head h (zs := zs) (by rw [hz]; rfl)
  refine decR_err a b ?_
  have hN : p.fs.length = fs1.length + (fs2.length + 1) := by rw [hfs]; simp
  have hz1 : zs = [(p.fs.length : Int), p.g] ++ (fs1.flatMap encL ++ ((l.length : Int) :: (l1.flatMap encX ++ post))) := by rw [hz]; simp
  have hf := funcsR_enc fs1 _ _ [] (fs2.length + 1) hz1 (fun y hy => h.funcs y (by rw [hfs]; simp [hy]))
  have e0 : [(p.fs.length : Int), p.g].length = 2 := rfl
  rw [← hN, e0] at hf
  rw [hf]
  have hlm : l ∈ p.fs := by rw [hfs]; simp
  obtain ⟨hs, hx⟩ := h.funcs l hlm
  have hb : byteR zs (2 + (fs1.flatMap encL).length) 1 64 = .ok (l.length : Int) := by
    have := byteR_mid (pre := (p.fs.length : Int) :: p.g :: fs1.flatMap encL) (l := 1) (m := 64) hz (by omega) (by omega)
    rw [show ((p.fs.length : Int) :: p.g :: fs1.flatMap encL).length = 2 + (fs1.flatMap encL).length from by simp; omega] at this
    exact this
  refine funcsR_err hb ?_
  have hz2 : zs = ((p.fs.length : Int) :: p.g :: fs1.flatMap encL ++ [(l.length : Int)]) ++ (l1.flatMap encX ++ post) := by rw [hz]; simp
  have hi := instsR_enc l1 _ _ [] (l2.length + 1) hz2 (fun y hy => hx y (by rw [hl]; simp [hy]))
  have e1 : ((p.fs.length : Int) :: p.g :: fs1.flatMap encL ++ [(l.length : Int)]).length = 2 + (fs1.flatMap encL).length + 1 := by simp; omega
  rw [e1] at hi
  have hL : l.length = l1.length + (l2.length + 1) := by rw [hl]; simp
  rw [← hL] at hi
  rw [hi]
  exact instsR_err he
/-- One byte less. -/
theorem decR_less {p : Pr} (h : Good p) : decR ((encI p).take ((encI p).length - 1)) = .error ((encI p).length - 1) := by
  have h1 := h.n1
  obtain ⟨fs1, l, hfs⟩ : ∃ fs1 l, p.fs = fs1 ++ [l] := by
    have hne : p.fs ≠ [] := fun e => by rw [e] at h1; simp at h1
    exact ⟨p.fs.dropLast, p.fs.getLast hne, (List.dropLast_concat_getLast hne).symm⟩
  have hlm : l ∈ p.fs := by rw [hfs]; simp
  have hs := h.size l hlm
  obtain ⟨l1, x, hl⟩ : ∃ l1 x, l = l1 ++ [x] := by
    have hne : l ≠ [] := fun e => by rw [e] at hs; simp at hs
    exact ⟨l.dropLast, l.getLast hne, (List.dropLast_concat_getLast hne).symm⟩
  have hE : encI p = (((p.fs.length : Int) :: p.g :: fs1.flatMap encL) ++ ((l.length : Int) :: (l1.flatMap encX ++ (encX x).take 3))) ++ [x.c] := by
    have e : p.fs.flatMap encL = fs1.flatMap encL ++ encL l := by rw [hfs]; simp
    unfold encI
    rw [e]
    unfold encL
    have e2 : l.flatMap encX = l1.flatMap encX ++ encX x := by rw [hl]; simp
    rw [e2]
    simp [encX]
  have hlen : (encI p).length - 1 = (((p.fs.length : Int) :: p.g :: fs1.flatMap encL) ++ ((l.length : Int) :: (l1.flatMap encX ++ (encX x).take 3))).length := by
    rw [hE, List.length_append]; simp
  have hT : (encI p).take ((encI p).length - 1) = ((p.fs.length : Int) :: p.g :: fs1.flatMap encL) ++ ((l.length : Int) :: (l1.flatMap encX ++ (encX x).take 3)) := by
    rw [hlen, hE]
    exact List.take_left
  refine decR_at h hfs hl hT ?_
  have hw : ¬ 0 ≤ wrongI p.g p.fs.length l.length x := h.inst l hlm x (by rw [hl]; simp)
  have hpre : (encI p).take ((encI p).length - 1) = (((p.fs.length : Int) :: p.g :: fs1.flatMap encL) ++ ((l.length : Int) :: l1.flatMap encX)) ++ (encX x).take 3 := by rw [hT]; simp
  have hi := instR_cut (s := (l.length : Int)) hpre hw
  have e3 : (((p.fs.length : Int) :: p.g :: fs1.flatMap encL) ++ ((l.length : Int) :: l1.flatMap encX)).length = 2 + (fs1.flatMap encL).length + 1 + 4 * l1.length := by
    simp only [List.length_append, List.length_cons, encX_len]; omega
  rw [e3] at hi
  rw [hi, List.length_take]
  congr 1
  omega
end Go.Proofs.Ytedgeoigapilnaa
