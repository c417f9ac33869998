/- code: the two ways out of Decode: its door, behind a panic and behind the return. -/
import Derived.Test.YtedgeoigapilnaaSpec
import Derived.Test.YtedgeoigapilnaaCatch2
namespace Go.Proofs.Ytedgeoigapilnaa
open Go.RowKit

theorem dec_results {w : World} {tmps : Array Value} {p q r : Nat} {x0 x1 y z : Value} (h2 : tmps[2]? = some (.pointer (some ⟨p, 0, none⟩))) (h3 : tmps[3]? = some (.pointer (some ⟨q, 0, none⟩))) (h4 : tmps[4]? = some (.pointer (some ⟨r, 0, none⟩)))
    (hp : Row w p 24 [x0, x1]) (hq : Row w q 3 [y]) (hr : Row w r 3 [z]) : (results Try.f13 tmps).run Try.prog w = .ok (.tuple #[.agg #[x0, x1], y, z]) w := by
  have p0 := hp.cell 0 _ rfl
  have p1 := hp.cell 1 _ rfl
  have q0 := hq.cell 0 _ rfl
  have r0 := hr.cell 0 _ rfl
  simp [results, Try.results13, go_sem, h2, h3, h4, p0, p1, q0, r0]

/-- The deferred call of Decode. -/
def dfr (p q r : Nat) : List Deferred := [{ target := .fn (.func 19) #[.pointer (some ⟨p, 0, none⟩), .pointer (some ⟨q, 0, none⟩), .pointer (some ⟨r, 0, none⟩)], args := #[] }]

theorem door_panic {w : World} {a : Act} {p q r : Nat} {v0 v1 x y : Value} {R : Ending → World → Prop} (i : Int) (hd : a.defers = dfr p q r)
    (h2 : a.tmps[2]? = some (.pointer (some ⟨p, 0, none⟩))) (h3 : a.tmps[3]? = some (.pointer (some ⟨q, 0, none⟩))) (h4 : a.tmps[4]? = some (.pointer (some ⟨r, 0, none⟩)))
    (hp : Row w p 24 [v0, v1]) (hq : Row w q 3 [x]) (hr : Row w r 3 [y]) (h5 : p ≠ q) (h6 : p ≠ r) (h7 : q ≠ r)
    (h : ∀ w', Turns (fun x => x = p ∨ x = q ∨ x = r) w w' → R (.returned (.tuple #[.agg #[.int .i64 0, .slice none 0 0], .int .i64 6, .int .i64 i])) w') :
    bodyPostD Try.prog Try.f13 R (.panic (thrown i)) a w := by
  obtain ⟨tmps, defers⟩ := a
  simp only at hd h2 h3 h4
  subst hd
  show Leaves _ _ _ _ _ _ _
  refine leaves_cons (f := 19) (args := #[.pointer (some ⟨p, 0, none⟩), .pointer (some ⟨q, 0, none⟩), .pointer (some ⟨r, 0, none⟩)]) (by simp) (by simp [go_sem]) ?_
  refine (catch_panicking p q r v0 v1 x y i w hp hq hr h5 h6 h7).mono ?_
  rintro e u' w' ⟨rfl, rfl, hp', hq', hr', t⟩
  exact ⟨_, dec_results h2 h3 h4 hp' hq' hr', h _ t⟩

theorem door_ret {w : World} {a : Act} {p q r : Nat} {v0 v1 x y : Value} {R : Ending → World → Prop} (hd : a.defers = dfr p q r)
    (h2 : a.tmps[2]? = some (.pointer (some ⟨p, 0, none⟩))) (h3 : a.tmps[3]? = some (.pointer (some ⟨q, 0, none⟩))) (h4 : a.tmps[4]? = some (.pointer (some ⟨r, 0, none⟩)))
    (hp : Row w p 24 [v0, v1]) (hq : Row w q 3 [x]) (hr : Row w r 3 [y])
    (h : ∀ w', Turns (fun _ => False) w w' → R (.returned (.tuple #[.agg #[v0, v1], x, y])) w') :
    bodyPostD Try.prog Try.f13 R .ret a w := by
  obtain ⟨tmps, defers⟩ := a
  simp only at hd h2 h3 h4
  subst hd
  show Leaves _ _ _ _ _ _ _
  refine leaves_cons (f := 19) (args := #[.pointer (some ⟨p, 0, none⟩), .pointer (some ⟨q, 0, none⟩), .pointer (some ⟨r, 0, none⟩)]) (by simp) (by simp [go_sem]) ?_
  refine (catch_idle ⟨p, 0, none⟩ ⟨q, 0, none⟩ ⟨r, 0, none⟩ w).mono ?_
  rintro e u' w' ⟨rfl, rfl, t⟩
  exact ⟨_, dec_results h2 h3 h4 (hp.later t (fun x => x)) (hq.later t (fun x => x)) (hr.later t (fun x => x)), h _ t⟩
theorem leaves_tmps {fn : Func} {t t' : Array Value} {R : Ending → World → Prop} (h : results fn t = results fn t') : ∀ (ds : List Deferred) (u : FrameMode) (w : World), Leaves Try.prog fn t R ds u w → Leaves Try.prog fn t' R ds u w
  | [], .returning, w, ⟨v, hr, hR⟩ => ⟨v, h ▸ hr, hR⟩
  | [], .panicking _, _, hR => hR
  | [], .run, _, hf => hf.elim
  | _ :: ds, _, _, ⟨hu, fv, cap, f, args, ht, hi, hc⟩ => ⟨hu, fv, cap, f, args, ht, hi, hc.mono fun e u' w' hR => by
      cases e with
      | returned v => exact leaves_tmps h ds _ _ hR
      | panicked c => exact leaves_tmps h ds _ _ hR
      | outgrown => exact hR⟩
theorem results_put (t : Array Value) (d : Nat) (v : Value) (h2 : d ≠ 2) (h3 : d ≠ 3) (h4 : d ≠ 4) : results Try.f13 (t.setIfInBounds d v) = results Try.f13 t := by
  unfold results
  rw [Try.results13]
  simp [Array.getElem?_setIfInBounds, h2, h3, h4]
theorem dec_put {R : Ending → World → Prop} {d : Nat} {v : Value} (h2 : d ≠ 2) (h3 : d ≠ 3) (h4 : d ≠ 4) (c : List PanicEntry) (a : Act) (w : World)
    (h : bodyPostD Try.prog Try.f13 R (.panic c) (a.put (some d) v) w) : bodyPostD Try.prog Try.f13 R (.panic c) a w :=
  leaves_tmps (results_put a.tmps d v h2 h3 h4) _ _ _ h
end Go.Proofs.Ytedgeoigapilnaa
