/- What the abstract machine shows of a law: it answers true, and all that was there is as it was. Conditions: none. -/
import Derived.Test.YtopkeglpafdlfaaGreatVS27
import Derived.ChangeSame
namespace Go.Proofs.YtopkeglpafdlfaaGreat.VS
open Go.ChangeShapes Go.WideShapes

def isTrue : Ans → Bool
  | .ok (.bool b) _ _ _ => b
  | _ => false

/-- All that was there is as it was. -/
abbrev Kept (w w' : World) : Prop := Keep (fun _ => False) w w'

theorem Keep.keptBut {w w' : World} (h : Kept w w') (may : MemPlace → Prop) : w.keptBut w' may := by
  refine ⟨h.os, h.output, fun i hi => ?_⟩
  rw [h.block i hi (fun h => h)]
  split
  · rename_i h1 h2
    rw [h1] at h2; cases h2
    exact ⟨rfl, rfl, rfl, fun _ _ => rfl⟩
  · rename_i h1 h2
    rw [h1] at h2; cases h2
    exact .inr ⟨rfl, rfl⟩
  · rfl

theorem Keep.frozen {w w' : World} (h : Kept w w') (a : Addr) (ha : a.block < w.heap.size) : w'.frozen? a = w.frozen? a := by
  unfold World.frozen?
  rw [h.block a.block ha (fun h => h)]

section
variable [Syms]
theorem law_true {P : Program} {T : Tabs} {cfg : Cfg} {N : Nat} {f : FuncId} {args : List AV} (hT : TyOK P T) (hF : FnOK P T) (hp : PrimOK P cfg) (hmx : P.follows .mixedOrders = true) (h : isTrue (acallK T cfg N f args [] [] 0) = true)
    {w : World} {cargs : Array Value} (hc : CR (fun _ => True) w.heap noMap args cargs 0) (hsz : cargs.size = args.length) (hcall : (callFunc f cargs).run P w = .ok (.enter f cargs) w) :
    Calls P f cargs w fun e w' => e = .returned (.bool true) ∧ Kept w w' := by
  rw [acallK_eq] at h
  generalize hq : acall T cfg N f args [] [] 0 = q at h
  unfold isTrue at h
  split at h
  · rename_i b H' F' nx'
    subst h
    have hs : SR ⟨fun _ => False, fun _ => False, w⟩ noMap [] [] w :=
      ⟨fun β h => h.elim, fun b o hb => (by cases hb), fun b o _ _ _ _ hb => (by cases hb), fun b o L hb => (by cases hb), fun b o L hb => (by cases hb), Keep.refl _ _⟩
    have key := acall_ok hT hF hp hmx N f args [] [] 0 _ _ _ _ hq ⟨fun _ => False, fun _ => False, w⟩ noMap w cargs hs
      (hc.mono (fun β C e z _ hh => ⟨⟨fun h => h, fun b o L hb => (by cases hb)⟩, hh⟩) (MLe.refl _)) hsz (fun _ _ => rfl)
    rcases key with ⟨v, w', h1, _⟩ | ⟨_, h2⟩
    · rw [hcall] at h1; cases h1
    · refine h2.mono fun e w' ⟨v, he, m', ha⟩ => ?_
      have := ha.vr
      cases this
      exact ⟨he, ha.sr.keep⟩
  · cases h

/-- An argument that is a number. -/
theorem cr_int {h : Array Obj} (k : IntKind) (n : Int) : CR (fun _ => True) h noMap [.int k n] #[.int k n] 0 := fun j x hx => by
  match j with
  | 0 => simp at hx; subst hx; exact ⟨_, rfl, .int _ _⟩
  | j + 1 => simp at hx

theorem cr_rng {h : Array Obj} (i : Nat) (k : IntKind) {lo hi n : Int} (h0 : n = Syms.int i) (h1 : lo ≤ n) (h2 : n ≤ hi) : CR (fun _ => True) h noMap [.rng i k lo hi] #[.int k n] 0 := fun j x hx => by
  match j with
  | 0 => simp at hx; subst hx; exact ⟨_, rfl, .rng _ _ _ _ _ h0 h1 h2⟩
  | j + 1 => simp at hx

theorem cr_nil {h : Array Obj} {C : Array Value} {o : Nat} : CR (fun _ => True) h noMap [] C o := fun j x hx => by simp at hx

theorem cr_cons {h : Array Obj} {a : AV} {v : Value} {l : List AV} {C : Array Value} {o : Nat} (hv : C[o]? = some v) (ha : VR (fun _ => True) h noMap a v) (hl : CR (fun _ => True) h noMap l C (o + 1)) : CR (fun _ => True) h noMap (a :: l) C o := fun j x hx => by
  match j with
  | 0 => simp at hx; subst hx; exact ⟨v, by simpa using hv, ha⟩
  | j + 1 =>
    obtain ⟨u, hu, hr⟩ := hl j x (by simpa using hx)
    exact ⟨u, by rw [← hu]; congr 1; omega, hr⟩

end

/-- No unknown. -/
abbrev noSyms : Syms := ⟨fun _ => 0, fun _ => []⟩

/-- The unknown numbers and texts, in order. -/
abbrev theSyms (a : List Int) (s : List (List UInt8)) : Syms := ⟨fun i => a.getD i 0, fun i => s.getD i []⟩

section
variable {H : Type} {enc : TypeId × Value → H} {P : Program}

/-- The post of a law that changes nothing that was there. -/
theorem post_kept {f : Func} {s : ChangeSpec} {apart fresh handsOn again : Bool} {W W' : World} {args : Array Value} {v : Value} {ds gs : List (DataW H)} {before pa pv : List MemPlace}
    (hW : DataW.Whole enc P f.params.toList s.vars apart W args.toList ds gs before)
    (hres : ∀ (b : Nat) (sp : Nat → Bool) (hd : Bool), DataW.TrodAll enc P W' b sp hd f.resultTypes.toList (v.resultList f.resultTypes.size) (s.fn H (ds ++ gs)).results [])
    (hargs : ∀ sp : Nat → Bool, (∀ p ∈ before, sp p.block = true) → DataW.TrodAll enc P W' 0 sp true f.params.toList args.toList (s.fn H (ds ++ gs)).args pa)
    (hvars : ∀ sp : Nat → Bool, (∀ p ∈ before, sp p.block = true) → DataW.TrodVars enc P W' sp s.vars (s.fn H (ds ++ gs)).vars pv)
    (hps : before = pa ++ pv) (hk : Kept W W')
    (hok : ∀ (j : Nat) (t : TypeId) (r : Value), f.resultTypes[j]? = some t → (v.resultList f.resultTypes.size)[j]? = some r → Value.okWide P W' .any 0 t r) :
    s.post enc P f apart fresh handsOn again W args v W' := by
  have hold : ∀ p ∈ before, (fun b => decide (b < W.heap.size)) p.block = true := fun p hp => by simpa using hW.lt p hp
  have hlt : ∀ p ∈ before, p.block < W.heap.size := fun p hp => hW.lt p hp
  refine ⟨ds, gs, before, [], pa, pv, hW, hres _ _ _, hargs _ hold, hvars _ hold, World.keptBut_mono (fun p hp => ⟨hp, ?_⟩) (hk.keptBut (· ∈ before)), fun _ => ?_⟩
  · rw [hps, List.mem_append] at hp
    exact Or.inr hp
  · obtain ⟨_, _, _, _, _, hz, hn⟩ := hW
    refine ⟨hok, _, _, ([] ++ pa) ++ pv, ⟨[] ++ pa, pv, trodAll_append (hargs _ (fun _ _ => rfl)) (hres _ _ _), hvars _ (fun _ _ => rfl), rfl, ?_, ?_⟩, ?_⟩
    · intro b off hp
      have hb : MemPlace.cell b off ∈ before := by rw [hps]; simpa using hp
      rw [hk.frozen ⟨b, off, none⟩ (hlt _ hb)]
      exact hz b off hb
    · intro ha
      have := hn ha
      rw [hps] at this
      simpa using this
    · intro p hp _
      rw [hps]
      simpa using hp

end
end Go.Proofs.YtopkeglpafdlfaaGreat.VS
