/- Loops by their places; a law's call by trees: it answers true, and all that was there is as it was. Conditions: none. -/
import Derived.Test.YtjihnbjdclobgaaVW9
import Derived.ChangeReads
namespace Go.Proofs.Ytjihnbjdclobgaa.VS
open Go.ChangeShapes
variable [Syms]

section
variable {P : Program} {S : SE}

theorem loopsIn_at {n : Nat} : ∀ {l : List Code}, (∀ i, i < l.length → ∀ lc, S.loop (keyOf (l.getD i .skip)) = some lc → LoopOK P n lc (l.getD i .skip)) → LoopsIn P S n l
  | [], _ => trivial
  | b :: r, h => ⟨fun lc hlc => h 0 (by simp) lc hlc, loopsIn_at fun i hi lc hlc => h (i + 1) (by simpa using hi) lc hlc⟩

/-- A function of one loop. -/
theorem loops_one {fn : Func} {l : LoopC} (h : ((fn.body.map loopsOf).getD []).length.beq 1 = true) (hS : ∀ k lc, S.loop k = some lc → lc = l) (hl : LoopOK P fn.ntmps l (loopAt fn 0)) : LoopsIn P S fn.ntmps ((fn.body.map loopsOf).getD []) :=
  loopsIn_at fun i hi lc hlc => by
    rw [beq_eq' h] at hi
    obtain rfl : i = 0 := by omega
    obtain rfl := hS _ _ hlc
    exact hl

theorem loops_in {fn : Func} {n : Nat} (h : ((fn.body.map loopsOf).getD []).length.beq n = true) (hl : ∀ i, i < n → ∀ lc, S.loop (keyOf (loopAt fn i)) = some lc → LoopOK P fn.ntmps lc (loopAt fn i)) : LoopsIn P S fn.ntmps ((fn.body.map loopsOf).getD []) :=
  loopsIn_at fun i hi => by
    rw [beq_eq' h] at hi
    exact hl i hi

/-- A law by its tree. -/
theorem law_sym (hT : TyOK P S.T) (hC : ConOK P S) (hmx : P.follows .mixedOrders = true) {f : FuncId} {fn : Func} (hf : FnOne P f fn) (hl : LoopsIn P S fn.ntmps ((fn.body.map loopsOf).getD [])) {args : List AV} (h : funC S fn args fun y => VLe y (.bool true))
    {w : World} {cargs : Array Value} (hc : CR (fun _ => True) w.heap noMap args cargs 0) (hsz : cargs.size = args.length) (hcall : (callFunc f cargs).run P w = .ok (.enter f cargs) w) :
    Calls P f cargs w fun e w' => e = .returned (.bool true) ∧ Kept w w' := by
  have hs : SR ⟨fun _ => False, fun _ => False, w⟩ noMap [] [] w :=
    ⟨fun β h => h.elim, fun b o hb => (by cases hb), fun b o _ _ _ _ hb => (by cases hb), fun b o L hb => (by cases hb), fun b o L hb => (by cases hb), Keep.refl _ _⟩
  have key := fun_calls hT hC hmx hf.1 hf.2.1 hf.2.2 (fun code hb => by rw [hb] at hl; exact loopsIn_ok hl) h hs
    (hc.mono (fun β C e z _ hh => ⟨⟨fun h => h, fun b o L hb => (by cases hb)⟩, hh⟩) (MLe.refl _)) hsz (fun _ => rfl)
  rcases key with ⟨v, w', h1, _⟩ | ⟨_, h2⟩
  · rw [hcall] at h1; cases h1
  · refine h2.mono fun e w' ⟨v, he, m', ha⟩ => ?_
    have := ha.vr
    cases this
    exact ⟨he, ha.sr.keep⟩

theorem law_loopless {fn : Func} (h : ((fn.body.map loopsOf).getD []).length.beq 0 = true) : LoopsIn P S fn.ntmps ((fn.body.map loopsOf).getD []) :=
  loopsIn_at fun i hi => by rw [beq_eq' h] at hi; omega

/-- A row of one argument, of two. -/
theorem cr_one {h : Array Obj} {a : AV} {v : Value} (ha : VR (fun _ => True) h noMap a v) : CR (fun _ => True) h noMap [a] #[v] 0 := cr_cons rfl ha cr_nil
theorem cr_two {h : Array Obj} {a b : AV} {v u : Value} (ha : VR (fun _ => True) h noMap a v) (hb : VR (fun _ => True) h noMap b u) : CR (fun _ => True) h noMap [a, b] #[v, u] 0 := cr_cons rfl ha (cr_cons rfl hb cr_nil)
theorem cr_three {h : Array Obj} {a b c : AV} {v u x : Value} (ha : VR (fun _ => True) h noMap a v) (hb : VR (fun _ => True) h noMap b u) (hc : VR (fun _ => True) h noMap c x) : CR (fun _ => True) h noMap [a, b, c] #[v, u, x] 0 := cr_cons rfl ha (cr_cons rfl hb (cr_cons rfl hc cr_nil))

theorem le_tt : VLe (.ub true) (.bool true) := .ubb rfl

end
end Go.Proofs.Ytjihnbjdclobgaa.VS
