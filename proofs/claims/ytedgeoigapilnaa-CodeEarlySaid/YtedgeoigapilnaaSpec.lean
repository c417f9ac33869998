/- code: what Decode answers, as a plain function of the bytes. -/
import Derived.Test.YtedgeoigapilnaaInst
namespace Go.Proofs.Ytedgeoigapilnaa
open Go.RowKit

/-- The next byte, from l to m. -/
def byteR (zs : List Int) (i : Nat) (l m : Int) : Except Nat Int :=
  if zs.length ≤ i then .error zs.length else if zs.getD i 0 < l ∨ m < zs.getD i 0 then .error i else .ok (zs.getD i 0)
/-- The next k instructions behind those of acc, and the place behind them. -/
def instsR (zs : List Int) (g f s : Int) : Nat → Nat → List In → Except Nat (List In × Nat)
  | 0, i, acc => .ok (acc, i)
  | k + 1, i, acc => match instR zs i (wrongI g f s) 4 in0 with
    | .error e => .error e
    | .ok x => instsR zs g f s k (i + 4) (acc ++ [x])
/-- The next k functions behind those of acc. -/
def funcsR (zs : List Int) (g f : Int) : Nat → Nat → List (List In) → Except Nat (List (List In) × Nat)
  | 0, i, acc => .ok (acc, i)
  | k + 1, i, acc => match byteR zs i 1 64 with
    | .error e => .error e
    | .ok s => match instsR zs g f s s.toNat (i + 1) [] with
      | .error e => .error e
      | .ok (l, j) => funcsR zs g f k j (acc ++ [l])
structure Pr where
  g : Int
  fs : List (List In)
/-- The program of bytes, or the place of the first that is wrong. -/
def decR (zs : List Int) : Except Nat Pr :=
  match byteR zs 0 1 16 with
  | .error e => .error e
  | .ok n => match byteR zs 1 0 32 with
    | .error e => .error e
    | .ok g => match funcsR zs g n n.toNat 2 [] with
      | .error e => .error e
      | .ok (fs, j) => if j < zs.length then .error j else .ok ⟨g, fs⟩

theorem byteR_ok {zs : List Int} {i : Nat} {l m v : Int} (h : byteR zs i l m = .ok v) : i < zs.length ∧ v = zs.getD i 0 ∧ l ≤ v ∧ v ≤ m := by
  unfold byteR at h
  split at h
  · cases h
  · split at h
    · cases h
    · cases h; exact ⟨by omega, rfl, by omega, by omega⟩
theorem byteR_error {zs : List Int} {i e : Nat} {l m : Int} (h : byteR zs i l m = .error e) : (zs.length ≤ i ∧ e = zs.length) ∨ (i < zs.length ∧ e = i ∧ (zs.getD i 0 < l ∨ m < zs.getD i 0)) := by
  unfold byteR at h
  split at h
  · cases h; exact .inl ⟨by assumption, rfl⟩
  · split at h
    · cases h; exact .inr ⟨by omega, rfl, by assumption⟩
    · cases h

/-- What next does: the reader at rb, the bytes at a. -/
def NextPost (w : World) (rb : Nat) (a : Option Addr) (n cap i : Nat) (r : Except Nat Int) (e : Ending) (w' : World) : Prop :=
  match r with
  | .error p => e = .panicked (thrown (p : Int)) ∧ Turns (fun _ => False) w w'
  | .ok x => e = .returned (.int .i64 x) ∧ Row w' rb 55 [.slice a n cap, .int .i64 ((i : Int) + 1)] ∧ Turns (fun x => x = rb) w w'

theorem next_any {w : World} {rb n cap : Nat} {a : Option Addr} {zs : List Int} (i : Nat) (R : Row w rb 55 [.slice a n cap, .int .i64 i]) (B : IsBytes w a n zs) (hn : n ≤ 1000000) (l m : Int) :
    Calls Try.prog 20 #[.pointer (some ⟨rb, 0, none⟩), .int .i64 l, .int .i64 m] w (NextPost w rb a n cap i (byteR zs i l m)) := by
  cases h : byteR zs i l m with
  | error p =>
    rcases byteR_error h with ⟨h1, h2⟩ | ⟨h1, h2, h3⟩
    · refine (next_out (i : Int) R l m (by rw [B.len] at h1; omega)).mono ?_
      rintro e w' ⟨he, ht⟩
      exact ⟨by rw [he, h2, B.len], ht⟩
    · refine (next_low i R B l m (by rw [B.len] at h1; omega) h3).mono ?_
      rintro e w' ⟨he, ht⟩
      exact ⟨by rw [he, h2], ht⟩
  | ok v =>
    obtain ⟨h1, h2, h3, h4⟩ := byteR_ok h
    refine (next_ok i R B l m (by rw [B.len] at h1; omega) hn (by omega) (by omega)).mono ?_
    rintro e w' ⟨he, hr, ht⟩
    exact ⟨by rw [he, h2], hr, ht⟩
theorem instsR_err {zs : List Int} {g f s : Int} {k i e : Nat} {acc : List In} (h : instR zs i (wrongI g f s) 4 in0 = .error e) : instsR zs g f s (k + 1) i acc = .error e := by rw [instsR, h]
theorem instsR_ok {zs : List Int} {g f s : Int} {k i : Nat} {acc : List In} {x : In} (h : instR zs i (wrongI g f s) 4 in0 = .ok x) : instsR zs g f s (k + 1) i acc = instsR zs g f s k (i + 4) (acc ++ [x]) := by rw [instsR, h]
theorem funcsR_err0 {zs : List Int} {g f : Int} {k i e : Nat} {acc : List (List In)} (h : byteR zs i 1 64 = .error e) : funcsR zs g f (k + 1) i acc = .error e := by rw [funcsR, h]
theorem funcsR_err {zs : List Int} {g f : Int} {s k i e : Nat} {acc : List (List In)} (h : byteR zs i 1 64 = .ok (s : Int)) (h2 : instsR zs g f s s (i + 1) [] = .error e) : funcsR zs g f (k + 1) i acc = .error e := by
  rw [funcsR, h]; simp only [Int.toNat_natCast]; rw [h2]
theorem funcsR_ok {zs : List Int} {g f : Int} {s k i j : Nat} {acc : List (List In)} {l : List In} (h : byteR zs i 1 64 = .ok (s : Int)) (h2 : instsR zs g f s s (i + 1) [] = .ok (l, j)) : funcsR zs g f (k + 1) i acc = funcsR zs g f k j (acc ++ [l]) := by
  rw [funcsR, h]; simp only [Int.toNat_natCast]; rw [h2]
theorem decR_err0 {zs : List Int} {e : Nat} (h : byteR zs 0 1 16 = .error e) : decR zs = .error e := by rw [decR, h]
theorem decR_err1 {zs : List Int} {n : Int} {e : Nat} (h : byteR zs 0 1 16 = .ok n) (h1 : byteR zs 1 0 32 = .error e) : decR zs = .error e := by rw [decR, h]; simp only; rw [h1]
theorem decR_err {zs : List Int} {n e : Nat} {g : Int} (h : byteR zs 0 1 16 = .ok (n : Int)) (h1 : byteR zs 1 0 32 = .ok g) (h2 : funcsR zs g n n 2 [] = .error e) : decR zs = .error e := by
  rw [decR, h]; simp only; rw [h1]; simp only [Int.toNat_natCast]; rw [h2]
theorem decR_more {zs : List Int} {n j : Nat} {g : Int} {fs : List (List In)} (h : byteR zs 0 1 16 = .ok (n : Int)) (h1 : byteR zs 1 0 32 = .ok g) (h2 : funcsR zs g n n 2 [] = .ok (fs, j)) (hj : j < zs.length) : decR zs = .error j := by
  rw [decR, h]; simp only; rw [h1]; simp only [Int.toNat_natCast]; rw [h2]; simp only; rw [if_pos hj]
theorem decR_ok {zs : List Int} {n j : Nat} {g : Int} {fs : List (List In)} (h : byteR zs 0 1 16 = .ok (n : Int)) (h1 : byteR zs 1 0 32 = .ok g) (h2 : funcsR zs g n n 2 [] = .ok (fs, j)) (hj : ¬ j < zs.length) : decR zs = .ok ⟨g, fs⟩ := by
  rw [decR, h]; simp only; rw [h1]; simp only [Int.toNat_natCast]; rw [h2]; simp only; rw [if_neg hj]

theorem next_err {w : World} {rb n cap : Nat} {a : Option Addr} {zs : List Int} (i : Nat) (R : Row w rb 55 [.slice a n cap, .int .i64 i]) (B : IsBytes w a n zs) (hn : n ≤ 1000000) (l m : Int) {x : Nat} (h : byteR zs i l m = .error x) :
    Calls Try.prog 20 #[.pointer (some ⟨rb, 0, none⟩), .int .i64 l, .int .i64 m] w fun e w' => e = .panicked (thrown x) ∧ Turns (fun _ => False) w w' := by
  have := next_any i R B hn l m
  rw [h] at this
  exact this
theorem next_val {w : World} {rb n cap : Nat} {a : Option Addr} {zs : List Int} (i : Nat) (R : Row w rb 55 [.slice a n cap, .int .i64 i]) (B : IsBytes w a n zs) (hn : n ≤ 1000000) (l m : Int) {x : Int} (h : byteR zs i l m = .ok x) :
    Calls Try.prog 20 #[.pointer (some ⟨rb, 0, none⟩), .int .i64 l, .int .i64 m] w fun e w' => e = .returned (.int .i64 x) ∧ Row w' rb 55 [.slice a n cap, .int .i64 ((i : Int) + 1)] ∧ Turns (fun x => x = rb) w w' := by
  have := next_any i R B hn l m
  rw [h] at this
  exact this
theorem inst_err {w : World} {rb n cap : Nat} {a : Option Addr} {zs : List Int} (g f s : Int) (i : Nat) (R : Row w rb 55 [.slice a n cap, .int .i64 i]) (B : IsBytes w a n zs) (hap : ∀ b o, a = some ⟨b, o, none⟩ → b ≠ rb) (hn : n ≤ 1000000)
    (wg : (Lit.int .i64 g).wf = true) (wf : (Lit.int .i64 f).wf = true) (ws : (Lit.int .i64 s).wf = true) {x : Nat} (h : instR zs i (wrongI g f s) 4 in0 = .error x) :
    Calls Try.prog 21 #[.pointer (some ⟨rb, 0, none⟩), .agg #[.int .i64 g, .int .i64 f, .int .i64 s]] w fun e w' => e = .panicked (thrown x) ∧ Turns (fun x => x = rb) w w' := by
  have := inst_any g f s i R B hap hn wg wf ws
  rw [h] at this
  exact this
theorem inst_val {w : World} {rb n cap : Nat} {a : Option Addr} {zs : List Int} (g f s : Int) (i : Nat) (R : Row w rb 55 [.slice a n cap, .int .i64 i]) (B : IsBytes w a n zs) (hap : ∀ b o, a = some ⟨b, o, none⟩ → b ≠ rb) (hn : n ≤ 1000000)
    (wg : (Lit.int .i64 g).wf = true) (wf : (Lit.int .i64 f).wf = true) (ws : (Lit.int .i64 s).wf = true) {x : In} (h : instR zs i (wrongI g f s) 4 in0 = .ok x) :
    Calls Try.prog 21 #[.pointer (some ⟨rb, 0, none⟩), .agg #[.int .i64 g, .int .i64 f, .int .i64 s]] w fun e w' => e = .returned (.agg #[.int .i64 x.op, .int .i64 x.a, .int .i64 x.b, .int .i64 x.c]) ∧ Row w' rb 55 [.slice a n cap, .int .i64 ((i : Int) + 4)] ∧ Turns (fun x => x = rb) w w' := by
  have := inst_any g f s i R B hap hn wg wf ws
  rw [h] at this
  exact this
end Go.Proofs.Ytedgeoigapilnaa
