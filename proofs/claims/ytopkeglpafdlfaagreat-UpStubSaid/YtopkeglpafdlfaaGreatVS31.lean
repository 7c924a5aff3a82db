/- Contracts of the library's functions for the abstract machine: strings.ContainsAny of plain texts. Conditions: none. -/
import Derived.Test.YtopkeglpafdlfaaGreatVS30
import Derived.Shelf.Strings.IndexAnyAll
namespace Go.Proofs.YtopkeglpafdlfaaGreat.VS
open Go.Shelf

/-- One contract more. -/
def withP (f0 : FuncId) (p : List AV → Option (AV × Heap)) (prim : FuncId → Option (List AV → Option (AV × Heap))) : FuncId → Option (List AV → Option (AV × Heap)) := fun f => bif f.beq f0 then some p else prim f

/-- Bytes that are plain, and not too many. -/
def plain (s : List UInt8) : Bool := s.length.ble 4294967280 && s.all fun b => b.toNat.ble 127

def containsP : List AV → Option (AV × Heap)
  | [.str s, .str c] => bif plain s && plain c then some (.bool (s.any fun b => c.contains b), []) else none
  | _ => none

theorem indexAny_any (chars : List UInt8) : ∀ s : List UInt8, decide (0 ≤ Lib.indexAny s chars) = s.any fun b => chars.contains b
  | [] => by simp [Lib.indexAny]
  | b :: l => by
    have ih := indexAny_any chars l
    have hge := Lib.indexAny_ge chars l
    unfold Lib.indexAny
    rw [List.any_cons]
    by_cases h : chars.contains b
    · rw [if_pos h, h]; rfl
    · rw [if_neg h, Bool.eq_false_iff.2 h, Bool.false_or, ← ih]
      by_cases h2 : Lib.indexAny l chars = -1
      · rw [h2]; rfl
      · rw [if_neg (by simpa using h2)]
        rw [decide_eq_decide]
        omega

theorem plain_small {s : List UInt8} (h : plain s = true) : s.length < 4294967281 ∧ ∀ (j : Nat) b, s[j]? = some b → b.toNat < 128 := by
  unfold plain at h
  rw [Bool.and_eq_true] at h
  refine ⟨Nat.lt_succ_of_le (Nat.le_of_ble_eq_true h.1), fun j b hb => ?_⟩
  exact Nat.lt_succ_of_le (Nat.le_of_ble_eq_true (List.all_eq_true.1 h.2 b (List.mem_of_getElem? hb)))

variable [Syms]

/-- A contract that holds. -/
def ContractOK (P : Program) (f : FuncId) (p : List AV → Option (AV × Heap)) : Prop :=
  ∀ args r, p args = some r → ∀ (c : Ctx) (m : Map) (w : World) (cargs : Array Value), SR c m [] [] w → CR (okB c.X m [] []) w.heap m args cargs 0 → cargs.size = args.length →
    (∀ b, m b = none) → CallsTo P f cargs w fun cv w' => ∃ m', After c m [] [] w 0 r.1 r.2 [] WIDE cv m' w'

theorem prim_with {P : Program} {cfg cfg' : Cfg} {f0 : FuncId} {p : List AV → Option (AV × Heap)} (hp : PrimOK P cfg') (h : ContractOK P f0 p) (he : cfg.prim = withP f0 p cfg'.prim) (hh : cfg.primH = cfg'.primH := by rfl) : PrimOK P cfg := by
  refine ⟨?_, fun f p hf => hp.heap f p (by rw [← hh]; exact hf)⟩
  intro f q hf args r hr c m w cargs hs hc hsz hb
  rw [he] at hf
  unfold withP at hf
  cases hi : f.beq f0 with
  | false =>
    rw [hi, cond_false] at hf
    exact hp.prim f q hf args r hr c m w cargs hs hc hsz hb
  | true =>
    rw [hi, cond_true] at hf
    cases hf
    have := Nat.eq_of_beq_eq_true hi
    subst this
    exact h args r hr c m w cargs hs hc hsz hb

/-- One contract over the caller's heap more. -/
def withH (f0 : FuncId) (p : List AV → Heap → List Nat → Nat → Option (AV × Heap × List Nat × Nat)) (prim : FuncId → Option (List AV → Heap → List Nat → Nat → Option (AV × Heap × List Nat × Nat))) :
    FuncId → Option (List AV → Heap → List Nat → Nat → Option (AV × Heap × List Nat × Nat)) := fun f => bif f.beq f0 then some p else prim f

theorem prim_withH {P : Program} {cfg cfg' : Cfg} {f0 : FuncId} {p : List AV → Heap → List Nat → Nat → Option (AV × Heap × List Nat × Nat)} (hp : PrimOK P cfg') (h : HOK P f0 p) (he : cfg.primH = withH f0 p cfg'.primH) (hh : cfg.prim = cfg'.prim := by rfl) : PrimOK P cfg := by
  refine ⟨fun f p hf => hp.prim f p (by rw [← hh]; exact hf), fun f q hf => ?_⟩
  rw [he] at hf
  unfold withH at hf
  cases hi : f.beq f0 with
  | false =>
    rw [hi, cond_false] at hf
    exact hp.heap f q hf
  | true =>
    rw [hi, cond_true] at hf
    cases hf
    have := Nat.eq_of_beq_eq_true hi
    subst this
    exact h

theorem prim_none {P : Program} {cfg : Cfg} (h1 : ∀ f, cfg.prim f = none) (h2 : ∀ f, cfg.primH f = none) : PrimOK P cfg :=
  ⟨fun f p h => (by rw [h1 f] at h; cases h), fun f p h => (by rw [h2 f] at h; cases h)⟩

/-- A call that changes nothing that was there, of a plain value. -/
theorem after_below {c : Ctx} {m : Map} {w w' : World} (hs : SR c m [] [] w) (hb : RowKit.Below w.heap.size w w') {v : AV} {cv : Value} (hv : VR (okB c.X m [] []) w'.heap m v cv) : After c m [] [] w 0 v [] [] WIDE cv m w' := by
  obtain ⟨h1, h2⟩ := hs.away (w' := w') ⟨hb.os, hb.tape, hb.output, hb.size, fun β hβ _ => hb.block β hβ⟩
  exact ⟨h1, h2, hv, Nat.zero_le _, fun b hb => .inl hb⟩

theorem contains_ok {P : Program} {ρ : Ren} {f : FuncId} (L : Lays.n150 P ρ) (h116 : (P.info? (ρ.t 116)).map (fun i => (i.zero, i.size)) = some (some (.agg (Array.replicate 256 (.bool false))), 256)) (hf : ρ.f 150 = f)
    (he : ∀ args w, (callFunc f args).run P w = .ok (.enter f args) w) : ContractOK P f containsP := by
  subst hf
  intro args r hr c m w cargs hs hc hsz hb
  unfold containsP at hr
  split at hr
  · rename_i s ch
    cases hpl : plain s && plain ch with
    | false => rw [hpl, cond_false] at hr; cases hr
    | true =>
      rw [hpl, cond_true] at hr
      cases hr
      rw [Bool.and_eq_true] at hpl
      obtain ⟨p1, p2⟩ := plain_small hpl.1
      obtain ⟨q1, q2⟩ := plain_small hpl.2
      obtain ⟨v1, g1, h1⟩ := hc 0 _ rfl
      obtain ⟨v2, g2, h2⟩ := hc 1 _ rfl
      obtain ⟨s1, rfl, e1⟩ := h1.str_inv
      obtain ⟨s2, rfl, e2⟩ := h2.str_inv
      have hargs : cargs = #[.string s1, .string s2] := by
        apply Array.ext
        · simpa using hsz
        · intro i hi1 hi2
          have hi : i = 0 ∨ i = 1 := by simp at hi2; omega
          rcases hi with rfl | rfl
          · rw [Array.getElem?_eq_getElem hi1] at g1; simpa using g1
          · rw [Array.getElem?_eq_getElem hi1] at g2; simpa using g2
      subst hargs
      refine .inr ⟨he _ w, ?_⟩
      have sz : ∀ s : ByteArray, s.size = s.data.toList.length := fun s => (Array.length_toList).symm
      refine (Any.strings_ContainsAny_laid L h116 s1 s2 w (by rw [sz, e1]; exact p1) (by rw [sz, e2]; exact q1) (by rw [e1]; exact p2) (by rw [e2]; exact q2)).mono ?_
      rintro e w' ⟨rfl, hw⟩
      refine ⟨_, rfl, m, after_below hs hw ?_⟩
      rw [e1, e2, Lib.containsAny, indexAny_any]
      exact .bool _
  · cases hr

end Go.Proofs.YtopkeglpafdlfaaGreat.VS
