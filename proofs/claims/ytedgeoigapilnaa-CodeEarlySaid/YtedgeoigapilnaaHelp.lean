/- code: small lemmas that the laws' walks share. -/
import Derived.Test.YtedgeoigapilnaaLaw
import Derived.Test.YtedgeoigapilnaaGreat
import Derived.Test.YtedgeoigapilnaaOpen
import Derived.Test.YtedgeoigapilnaaDecodes
namespace Go.Proofs.Ytedgeoigapilnaa
open Go.RowKit

theorem encI_le {p : Pr} (h : Good p) : (encI p).length ≤ 5000 := by
  have key : ∀ fs : List (List In), (∀ l ∈ fs, 1 ≤ l.length ∧ l.length ≤ 64) → (fs.flatMap encL).length ≤ fs.length * 257 := by
    intro fs
    induction fs with
    | nil => intro _; simp
    | cons l r ih =>
      intro h
      have := ih (fun y hy => h y (by simp [hy]))
      have := h l (by simp)
      rw [List.flatMap_cons, List.length_append, encL_length, List.length_cons]
      omega
  have := key p.fs h.size
  have := h.n16
  rw [encI_length]
  omega
theorem encI_ge {p : Pr} (h : Good p) : 7 ≤ (encI p).length := by
  have h1 := h.n1
  rw [encI_length]
  cases hf : p.fs with
  | nil => rw [hf] at h1; simp at h1
  | cons l r =>
    have := h.size l (by rw [hf]; simp)
    rw [List.flatMap_cons, List.length_append, encL_length]
    omega
theorem IsBytes.src {w : World} {a : Option Addr} {n cap : Nat} {zs : List Int} (h : IsBytes w a n zs) (hn : 0 < n) : Src Try.prog 1 27 (.slice a n cap) n (bytes zs) w := by
  obtain ⟨b, off, rfl, _, _⟩ := h.at_ 0 hn
  refine Src.ofSlice w Try.underlying27 ⟨b, off, none⟩ n cap (bytes zs) (by simp [bytes, h.len]) (fun j u hu => ?_) (fun u hu => ?_)
  · have hj : j < n := by
      rcases Nat.lt_or_ge j n with h' | h'
      · exact h'
      · rw [List.getElem?_eq_none (by simp [bytes, h.len]; exact h')] at hu; cases hu
    obtain ⟨b', off', e, _, hc⟩ := h.at_ j hj
    cases e
    rw [bytes_at zs j (by rw [h.len]; exact hj)] at hu
    cases hu
    rw [Addr.add_lit]
    exact hc
  · obtain ⟨_, _, rfl⟩ := List.mem_map.1 hu
    rfl
theorem IsBytes.take {w : World} {a : Option Addr} {n : Nat} {zs : List Int} (h : IsBytes w a n zs) (m : Nat) (hm : m ≤ n) : IsBytes w a m (zs.take m) := by
  have hl := h.len
  refine ⟨by simp; omega, fun z hz => h.range z (List.mem_of_mem_take hz), fun j hj => ?_⟩
  obtain ⟨b, off, e, hb, hc⟩ := h.at_ j (by omega)
  refine ⟨b, off, e, hb, ?_⟩
  rw [hc]
  congr 2
  rw [List.getD_eq_getElem?_getD, List.getD_eq_getElem?_getD, List.getElem?_take, if_pos hj]

end Go.Proofs.Ytedgeoigapilnaa
