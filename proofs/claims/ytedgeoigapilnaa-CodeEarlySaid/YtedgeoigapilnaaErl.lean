/- code: CodeEarly in plain Lean: where an Op stands; what Decode tells of a byte that cannot stand there; strings' bytes; a slice of numbers of the call's own. -/
import Derived.Test.YtedgeoigapilnaaStrs
namespace Go.Proofs.Ytedgeoigapilnaa
open Go.RowKit

/-- An Op stands at z of the program's bytes. -/
def PosOk (p : Pr) (z : Nat) : Prop := ∃ fs1 l fs2 l1 x l2, p.fs = fs1 ++ l :: fs2 ∧ l = l1 ++ x :: l2 ∧ z = 2 + (fs1.flatMap encL).length + 1 + 4 * l1.length
theorem pos_pre {p : Pr} {z : Nat} (h : PosOk p z) : ∃ fs1 l fs2 l1 x l2, p.fs = fs1 ++ l :: fs2 ∧ l = l1 ++ x :: l2 ∧ z = 2 + (fs1.flatMap encL).length + 1 + 4 * l1.length ∧
    ∃ post, encI p = (((p.fs.length : Int) :: p.g :: fs1.flatMap encL) ++ ((l.length : Int) :: l1.flatMap encX)) ++ x.op :: post ∧ (((p.fs.length : Int) :: p.g :: fs1.flatMap encL) ++ ((l.length : Int) :: l1.flatMap encX)).length = z := by
  obtain ⟨fs1, l, fs2, l1, x, l2, h1, h2, h3⟩ := h
  refine ⟨fs1, l, fs2, l1, x, l2, h1, h2, h3, x.a :: x.b :: x.c :: (l2.flatMap encX ++ fs2.flatMap encL), ?_, ?_⟩
  · have e : p.fs.flatMap encL = fs1.flatMap encL ++ (encL l ++ fs2.flatMap encL) := by rw [h1]; simp
    have e2 : l.flatMap encX = l1.flatMap encX ++ (encX x ++ l2.flatMap encX) := by rw [h2]; simp
    unfold encI
    rw [e]
    unfold encL
    rw [e2]
    simp [encX]
  · simp only [List.length_append, List.length_cons, encX_len]; omega
theorem pos_lt {p : Pr} {z : Nat} (h : PosOk p z) : z < (encI p).length := by
  obtain ⟨fs1, l, fs2, l1, x, l2, _, _, _, post, h4, h5⟩ := pos_pre h
  rw [h4, List.length_append, h5]
  simp
theorem decR_255 {p : Pr} (h : Good p) {z : Nat} (hp : PosOk p z) (post : List Int) : decR ((encI p).take z ++ 255 :: post) = .error z := by
  obtain ⟨fs1, l, fs2, l1, x, l2, h1, h2, h3, post', h4, h5⟩ := pos_pre hp
  have ht : (encI p).take z = ((p.fs.length : Int) :: p.g :: fs1.flatMap encL) ++ ((l.length : Int) :: l1.flatMap encX) := by
    rw [h4, ← h5]
    exact List.take_left
  rw [ht]
  refine decR_at h h1 h2 (post := 255 :: post) (by simp) ?_
  have hi := instR_255 (g := p.g) (f := (p.fs.length : Int)) (s := (l.length : Int)) (zs := (((p.fs.length : Int) :: p.g :: fs1.flatMap encL) ++ ((l.length : Int) :: l1.flatMap encX)) ++ 255 :: post) rfl
  rw [h5] at hi
  rw [← h3]
  exact hi

theorem nums_append (a b : ByteArray) : nums (a ++ b) = nums a ++ nums b := by simp [nums, ByteArray.data_append]
theorem nums_extract (s : ByteArray) (k : Nat) : nums (s.extract 0 k) = (nums s).take k := by
  simp [nums, ByteArray.data_extract, List.map_take]
theorem nums_of {zs : List Int} (h : ∀ z ∈ zs, 0 ≤ z ∧ z < 256) : nums (strOfNums zs) = zs := by
  unfold nums strOfNums
  simp only [List.map_map]
  refine (List.map_congr_left (g := id) (fun z hz => ?_)).trans (List.map_id _)
  have := h z hz
  simp only [Function.comp, id]
  rw [UInt8.toNat_ofNat']
  omega
theorem early_a {p : Pr} (h : Good p) {z : Nat} (hp : PosOk p z) (r : ByteArray) : decR (nums ((strOfNums (encI p)).extract 0 z ++ ⟨#[255]⟩ ++ r)) = .error z := by
  rw [nums_append, nums_append, nums_extract, nums_of (encI_range h), List.append_assoc]
  exact decR_255 h hp (nums r)
theorem early_b {p : Pr} (h : Good p) {z : Nat} (hp : PosOk p z) (r t : ByteArray) : decR (nums ((strOfNums (encI p)).extract 0 z ++ ⟨#[255]⟩ ++ r ++ t)) = .error z := by
  rw [ByteArray.append_assoc (b := r)]
  exact early_a h hp (r ++ t)
theorem early_c (r : ByteArray) : decR (nums (⟨#[0]⟩ ++ r)) = .error 0 := by
  rw [nums_append]
  exact decR_err0 (byteR_bad (pre := []) (post := nums r) (v := 0) rfl (by left; omega))
theorem early_d {p : Pr} (h : Good p) (r : ByteArray) : decR (nums ((strOfNums (encI p)).extract 0 1 ++ ⟨#[33]⟩ ++ r)) = .error 1 := by
  rw [nums_append, nums_append, nums_extract, nums_of (encI_range h), List.append_assoc]
  have h1 := h.n1; have h2 := h.n16
  have e : (encI p).take 1 ++ (nums ⟨#[33]⟩ ++ nums r) = [] ++ (p.fs.length : Int) :: (33 :: nums r) := rfl
  rw [e]
  exact decR_err1 (byteR_mid (pre := []) (v := (p.fs.length : Int)) rfl (by omega) (by omega)) (byteR_bad (pre := [(p.fs.length : Int)]) (v := 33) rfl (by right; omega))

/-- A slice of numbers of the call's own. -/
def OV (w : World) (B : Nat) (v : Value) (os : List Nat) : Prop := View w B 3 1 v os.length (os.map fun (z : Nat) => Value.int .i64 (z : Int))
theorem OV.nil (w : World) (B : Nat) : OV w B (.slice none 0 0) [] := View.zero _ _ _ _
theorem OV.later {w w' : World} {B : Nat} {v : Value} {os : List Nat} (h : OV w B v os) {D : Nat → Prop} (t : Turns D w w') (hD : ∀ g, B ≤ g → ¬ D g) : OV w' B v os := View.later h t (fun g hg => hD g (View.low h g hg))
theorem Try.info3 : (Try.prog.info? 3).map (fun i => (i.zero, i.size, i.bytes)) = some (some (.int .i64 0), 1, 8) := by kernel_rfl
/-- 'append(ops, z)'. -/
theorem wpList_append_num {w : World} {ops : Array Oper} {rest : List Oper} {o : Oper} {a : Act} {Q : Exit → Act → World → Prop} (hgd : o.guard = none) (s y : Operand)
    (ho : o.op = .call { callee := .builtin .append, args := #[s, y], argTypes := #[42, 42] }) (B : Nat) (v : Value) (os : List Nat) (b c z : Nat)
    (hsv : a.eval s = v) (hyv : a.eval y = .slice (some ⟨b, 0, none⟩) 1 c) (hv : OV w B v os) (hx : Row w b 3 [.int .i64 (z : Int)]) (hl : os.length ≤ 100000) (hB : B ≤ w.heap.size)
    (h : ∀ v' w', OV w' B v' (os ++ [z]) → Grew w w' v B → wpList Try.prog ops Q rest (a.put o.dst v') w') : wpList Try.prog ops Q (o :: rest) a w := by
  obtain ⟨i, hi, hz0, hz1, hz2⟩ := info_parts Try.info3
  refine wpList_append_view hgd s y 42 3 1 8 _ i ho Try.underlying42 hi hz0 hz1 hz2 rfl B v _ os.length 1 _ [.int .i64 (z : Int)] hsv hyv hv ?_ (by unfold maxLen; omega) (by omega) hB ?_
  · refine Src.ofSlice w Try.underlying42 ⟨b, 0, none⟩ 1 c [.int .i64 (z : Int)] rfl (fun k u' hu' => ?_) (fun u' hu' => ?_)
    · rw [Addr.add_lit, Nat.zero_add]
      exact hx.cell k u' hu'
    · simp at hu'; subst hu'; rfl
  · intro v' w' hv' hg _
    refine h v' w' ?_ hg
    unfold OV
    rw [List.length_append, List.map_append]
    exact hv'
theorem OV.at_ {w : World} {B : Nat} {v : Value} {os : List Nat} (h : OV w B v os) (hn : 0 < os.length) : ∃ g o cap, v = .slice (some ⟨g, o, none⟩) os.length cap ∧ ∀ k, k < os.length → ∃ z, z ∈ os ∧ w.cell? ⟨g, o + k, none⟩ = some (.int .i64 ((z : Nat) : Int)) := by
  obtain ⟨g, o, cap, e, _, _, _, _, _, hc⟩ := View.cells h hn
  refine ⟨g, o, cap, e, fun k hk => ⟨os[k], List.getElem_mem hk, hc k _ (by rw [List.getElem?_map, List.getElem?_eq_getElem hk]; rfl)⟩⟩

theorem funcs_at {w : World} {ao : Option Addr} {N cap : Nat} {p : Pr} (h : Funcs w (.slice ao N cap) p.fs) (hN : p.fs.length = N) (hg : Good p) (F : Nat) (hF : F < N) :
    ∃ l b o ao' cap', p.fs[F]? = some l ∧ ao = some ⟨b, o, none⟩ ∧ w.cell? ⟨b, o + F, none⟩ = some (.slice ao' l.length cap') ∧ 1 ≤ l.length ∧ l.length ≤ 64 := by
  obtain ⟨_, ao2, cap2, e, hc⟩ := h
  cases e
  have hl : p.fs[F]? = some p.fs[F] := List.getElem?_eq_getElem (by omega)
  obtain ⟨b, o, u, e2, h3, _, ao', cap', e4, _⟩ := hc F _ hl
  have hs := hg.size p.fs[F] (List.getElem_mem _)
  subst e4
  exact ⟨p.fs[F], b, o, ao', cap', hl, e2, h3, hs.1, hs.2⟩

/-- Bytes ahead of the function F. -/
def kF (p : Pr) (F : Nat) : Nat := ((p.fs.take F).flatMap encL).length
theorem kF_zero (p : Pr) : kF p 0 = 0 := by simp [kF]
theorem kF_succ {p : Pr} {F : Nat} {l : List In} (h : p.fs[F]? = some l) : kF p (F + 1) = kF p F + 1 + 4 * l.length := by
  unfold kF
  rw [List.take_add_one, h]
  simp only [Option.toList_some, List.flatMap_append, List.length_append, List.flatMap_cons, List.flatMap_nil, List.append_nil, encL_length]
  omega
theorem kF_le (p : Pr) (F : Nat) : 2 + kF p F ≤ (encI p).length := by
  rw [encI_length]
  have e : (p.fs.flatMap encL).length = kF p F + ((p.fs.drop F).flatMap encL).length := by
    unfold kF
    rw [← List.length_append, ← List.flatMap_append, List.take_append_drop]
  omega
theorem kF_pos {p : Pr} {F J : Nat} {l : List In} (h : p.fs[F]? = some l) (hJ : J < l.length) : PosOk p (2 + kF p F + 1 + 4 * J) := by
  have hF : F < p.fs.length := by
    rcases Nat.lt_or_ge F p.fs.length with h' | h'
    · exact h'
    · rw [List.getElem?_eq_none h'] at h; cases h
  have hl : p.fs[F] = l := by rw [List.getElem?_eq_getElem hF] at h; exact Option.some.inj h
  refine ⟨p.fs.take F, l, p.fs.drop (F + 1), l.take J, l[J], l.drop (J + 1), ?_, ?_, ?_⟩
  · rw [← hl, ← List.drop_eq_getElem_cons hF, List.take_append_drop]
  · rw [← List.drop_eq_getElem_cons hJ, List.take_append_drop]
  · rw [List.length_take, Nat.min_eq_left (by omega)]
    rfl
end Go.Proofs.Ytedgeoigapilnaa
