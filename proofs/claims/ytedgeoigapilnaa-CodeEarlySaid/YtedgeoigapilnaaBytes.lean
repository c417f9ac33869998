/- code: a program's bytes as a list; bytes of the call's own; what a program that may be is. -/
import Derived.Test.YtedgeoigapilnaaMay
namespace Go.Proofs.Ytedgeoigapilnaa
open Go.RowKit

def encX (x : In) : List Int := [x.op, x.a, x.b, x.c]
def encL (l : List In) : List Int := (l.length : Int) :: l.flatMap encX
theorem encX_len (l : List In) : (l.flatMap encX).length = l.length * 4 := by
  induction l with
  | nil => rfl
  | cons x r ih => rw [List.flatMap_cons, List.length_append, ih]; simp [encX]; omega
/-- A program's bytes. -/
def encI (p : Pr) : List Int := (p.fs.length : Int) :: p.g :: p.fs.flatMap encL

def bytes (zs : List Int) : List Value := zs.map (.int .u8)
/-- A slice of bytes of the call's own. -/
def BV (w : World) (B : Nat) (v : Value) (zs : List Int) : Prop := View w B 5 1 v zs.length (bytes zs)
theorem BV.later {w w' : World} {D : Nat → Prop} {B : Nat} {v : Value} {zs : List Int} (h : BV w B v zs) (t : Turns D w w') (hD : ∀ g, v.ownBlock = some g → ¬ D g) : BV w' B v zs := View.later h t hD
theorem Try.info5 : (Try.prog.info? 5).map (fun i => (i.zero, i.size, i.bytes)) = some (some (.int .u8 0), 1, 1) := by kernel_rfl
theorem bytes_at (zs : List Int) (j : Nat) (h : j < zs.length) : (bytes zs)[j]? = some (.int .u8 (zs.getD j 0)) := by
  unfold bytes
  rw [List.getElem?_map, List.getElem?_eq_getElem h, List.getD_eq_getElem?_getD, List.getElem?_eq_getElem h]
  rfl
/-- 'append(b, bytes ..)': the bytes in a new block. -/
theorem wpList_append_bytes {w : World} {ops : Array Oper} {rest : List Oper} {o : Oper} {a : Act} {Q : Exit → Act → World → Prop} (hgd : o.guard = none) (s y : Operand)
    (ho : o.op = .call { callee := .builtin .append, args := #[s, y], argTypes := #[27, 27] }) (B : Nat) (v : Value) (zs : List Int) (b m c : Nat) (ys : List Int)
    (hsv : a.eval s = v) (hyv : a.eval y = .slice (some ⟨b, 0, none⟩) m c) (hm : m = ys.length) (hv : BV w B v zs) (hx : Row w b 5 (bytes ys))
    (hb : zs.length ≤ 100000) (hb2 : ys.length ≤ 100000) (hB : B ≤ w.heap.size)
    (h : ∀ v' w', BV w' B v' (zs ++ ys) → Grew w w' v B → Lies w v v' →
      wpList Try.prog ops Q rest (a.put o.dst v') w') : wpList Try.prog ops Q (o :: rest) a w := by
  obtain ⟨i, hi, hz0, hz1, hz2⟩ := info_parts Try.info5
  subst hm
  refine wpList_append_view hgd s y 27 5 1 1 _ i ho Try.underlying27 hi hz0 hz1 hz2 rfl B v _ zs.length ys.length (bytes zs) (bytes ys) hsv hyv hv ?_ (by unfold maxLen; omega) (by omega) hB ?_
  · refine Src.ofSlice w Try.underlying27 ⟨b, 0, none⟩ _ c (bytes ys) (by simp [bytes]) (fun k u hu => ?_) (fun u hu => ?_)
    · rw [Addr.add_lit, Nat.zero_add]
      exact hx.cell k u hu
    · obtain ⟨_, _, rfl⟩ := List.mem_map.1 hu
      rfl
  · intro v' w' hv' hg hw
    refine h v' w' ?_ hg hw
    unfold BV
    rw [bytes, List.map_append, List.length_append]
    exact hv'
theorem BV.lits (w : World) (B : Nat) (ys : List Int) (b : Nat) (h : Row w b 5 (bytes ys)) (hb : B ≤ b) (hl : ys.length ≤ 100000) : BV w B (.slice (some ⟨b, 0, none⟩) ys.length ys.length) ys := by
  refine ⟨by simp [bytes], fun u hu => ?_, .inr ⟨b, 0, ys.length, (bytes ys).toArray, rfl, hb, h, by omega, by unfold maxLen; omega, by simp [bytes], ?_⟩⟩
  · obtain ⟨_, _, rfl⟩ := List.mem_map.1 hu
    rfl
  · simp only [bytes, Nat.mul_one, List.drop_zero]
    rw [List.take_of_length_le (by simp)]

/-- What Encode answers. -/
def EncPost (w : World) (p : Pr) (e : Ending) (w' : World) : Prop :=
  Turns (fun _ => False) w w' ∧ ((mayI p ≠ 0 → e = .returned (.tuple #[.slice none 0 0, .int .i64 1])) ∧ (mayI p = 0 → ∃ v, e = .returned (.tuple #[v, .int .i64 0]) ∧ BV w' w.heap.size v (encI p)))

/-- An instruction that may be. -/
theorem fitB_256 {g f s : Int} {k : Nat} {v : Int} (hg : g ≤ 256) (hf : f ≤ 256) (hs : s ≤ 256) (h : fitB g f s k v = true) : 0 ≤ v ∧ v < 256 := by
  unfold fitB at h
  simp only [Bool.and_eq_true, decide_eq_true_eq] at h
  have : most g f s k ≤ 256 := by
    unfold most
    split <;> omega
  omega
theorem wrongI_bytes {g f s : Int} {x : In} (hg : g ≤ 256) (hf : f ≤ 256) (hs : s ≤ 256) (h : ¬ 0 ≤ wrongI g f s x) : ∀ z ∈ encX x, 0 ≤ z ∧ z < 256 := by
  unfold wrongI at h
  split at h
  · omega
  rename_i h0
  simp only at h
  split at h
  · omega
  rename_i h1
  split at h
  · omega
  rename_i h2
  split at h
  · omega
  rename_i h3
  have a1 := fitB_256 hg hf hs (by simpa using h1)
  have a2 := fitB_256 hg hf hs (by simpa using h2)
  have a3 := fitB_256 hg hf hs (by simpa using h3)
  intro z hz
  simp only [encX, List.mem_cons, List.not_mem_nil, or_false] at hz
  rcases hz with rfl | rfl | rfl | rfl
  · omega
  · exact a1
  · exact a2
  · exact a3

theorem scanL_none {g f s : Int} : ∀ (l : List In) (n m : Int), scanL g f s l n = .ok m → m = n + l.length ∧ ∀ x ∈ l, ¬ 0 ≤ wrongI g f s x
  | [], n, m, h => by cases h; exact ⟨by simp, fun x hx => by cases hx⟩
  | y :: r, n, m, h => by
    rw [scanL] at h
    split at h
    · cases h
    · obtain ⟨h1, h2⟩ := scanL_none r (n + 1) m h
      refine ⟨by rw [h1]; simp; omega, fun x hx => ?_⟩
      rcases List.mem_cons.1 hx with rfl | hx
      · assumption
      · exact h2 x hx
theorem scanL_pos {g f s : Int} : ∀ (l : List In) (n e : Int), 0 ≤ n → scanL g f s l n = .error e → 0 < e
  | [], n, e, _, h => by cases h
  | y :: r, n, e, hn, h => by
    rw [scanL] at h
    split at h
    · cases h; omega
    · exact scanL_pos r (n + 1) e (by omega) h
theorem scanF_none {g f : Int} : ∀ (fs : List (List In)) (n m : Int), scanF g f fs n = .ok m → ∀ l ∈ fs, ∀ x ∈ l, ¬ 0 ≤ wrongI g f l.length x
  | [], n, m, h => fun l hl => by cases hl
  | y :: r, n, m, h => by
    rw [scanF] at h
    split at h
    · cases h
    · rename_i n' hn'
      intro l hl x hx
      rcases List.mem_cons.1 hl with rfl | hl
      · exact (scanL_none l n n' hn').2 x hx
      · exact scanF_none r n' m h l hl x hx
theorem scanF_pos {g f : Int} : ∀ (fs : List (List In)) (n e : Int), 0 ≤ n → scanF g f fs n = .error e → 0 < e
  | [], n, e, _, h => by cases h
  | y :: r, n, e, hn, h => by
    rw [scanF] at h
    split at h
    · rename_i e' he'
      cases h
      exact scanL_pos y n e hn he'
    · rename_i n' hn'
      have := (scanL_none y n n' hn').1
      exact scanF_pos r n' e (by omega) h
/-- A program that may be. -/
structure Good (p : Pr) : Prop where
  n1 : 1 ≤ p.fs.length
  n16 : p.fs.length ≤ 16
  g0 : 0 ≤ p.g
  g32 : p.g ≤ 32
  size : ∀ l ∈ p.fs, 1 ≤ l.length ∧ l.length ≤ 64
  inst : ∀ l ∈ p.fs, ∀ x ∈ l, ¬ 0 ≤ wrongI p.g p.fs.length l.length x
theorem mayI_good {p : Pr} (h : mayI p = 0) : Good p := by
  unfold mayI at h
  split at h
  · omega
  split at h
  · omega
  rename_i h1 h2
  have ha : p.fs.all sizeB = true := by simpa using h2
  refine ⟨by omega, by omega, by omega, by omega, fun l hl => ?_, ?_⟩
  · have := List.all_eq_true.1 ha l hl
    simp [sizeB] at this
    omega
  · split at h
    · rename_i e he
      have := scanF_pos _ _ _ (by omega) he
      omega
    · rename_i m hm
      exact scanF_none _ _ _ hm
theorem Good.bytes {p : Pr} (h : Good p) {l : List In} (hl : l ∈ p.fs) {x : In} (hx : x ∈ l) : ∀ z ∈ encX x, 0 ≤ z ∧ z < 256 :=
  wrongI_bytes (by have := h.g32; omega) (by have := h.n16; omega) (by have := (h.size l hl).2; omega) (h.inst l hl x hx)
end Go.Proofs.Ytedgeoigapilnaa
