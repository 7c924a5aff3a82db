/- A region whose order is drawn: what it leaves, on both sides. Conditions: none. -/
import Derived.Test.YtopkeglpafdlfaaGreatVS23
namespace Go.Proofs.YtopkeglpafdlfaaGreat.VS
variable [Syms]

section congr
variable {c : Ctx} {m : Map} {H H' : Heap} {F F' : List Nat} {w : World}

omit [Syms] in
theorem okB_congr (hH : ∀ b, hget H' b = hget H b) (hF : FAgree F F') (X : Nat → Prop) (m : Map) : okB X m H' F' = okB X m H F := by
  funext β
  unfold okB
  simp only [hH]
  have : ∀ b, b ∈ F' ↔ b ∈ F := fun b => by rw [← isIn_iff, ← isIn_iff, hF b]
  simp only [this]

theorem SR.congr (hs : SR c m H F w) (hH : ∀ b, hget H' b = hget H b) (hF : FAgree F F') : SR c m H' F' w := by
  refine ⟨hs.xlt, fun b o hb => ?_, fun b o b' o' L L' h1 h2 => ?_, fun b o L hb => ?_, fun b o L hb => ?_, hs.keep⟩
  · rw [okB_congr hH hF]; rw [hH] at hb; exact hs.all b o hb
  · rw [hH] at h1 h2; exact hs.inj b o b' o' L L' h1 h2
  · rw [hH] at hb; exact hs.nox b o L hb
  · rw [hH] at hb; exact hs.own b o L hb

structure StEq (n : Nat) (u s : St) : Prop where
  fr : ∀ t, s.fr.get t = u.fr.get t
  H : ∀ b, hget s.H b = hget u.H b
  F : FAgree u.F s.F
  nx : s.nx = u.nx
  has : ∀ k, k < n → s.fr.has k = true

theorem At.congr {n : Nat} {u s : St} {a : Act} (ha : At n c m u a w) (h : StEq n u s) : At n c m s a w :=
  ⟨ha.sr.congr h.H h.F, fun t => by rw [okB_congr h.H h.F, h.fr]; exact ha.fr t, h.has, ha.sz, by rw [h.nx]; exact ha.nx⟩

omit [Syms] in
theorem Moves.congr {n : Nat} {m0 : Map} {s0 u s : St} {w0 : World} {lo : Nat} (hm : Moves c m0 s0 w0 lo m u w) (h : StEq n u s) : Moves c m0 s0 w0 lo m s w :=
  ⟨⟨hm.ext.mm, by rw [okB_congr h.H h.F]; exact hm.ext.kk⟩, by rw [h.nx]; exact hm.le, by rw [h.nx]; exact hm.dom⟩

end congr

/-- A region's trace, in the order of the text. -/
structure Trace (E : Env) (ops : Array Oper) (n base : Nat) (st : Nat → St) (fs : List Foot) : Prop where
  step : ∀ j o, ops[j]? = some o → ∃ f, fs[j]? = some f ∧ stepD E ops.toList (base + STRIDE * j) o (st j) = .at (st (j + 1)) [f]
  feet : feetOk fs (befL ops.toList []) 0 = true
  slots : feetOk (ops.toList.map (slotsOf ops.toList)) (befL ops.toList []) 0 = true
  low : edgesLow ops.toList 0 = true
  has : ∀ k, k < n → (st 0).fr.has k = true
  dst : ∀ (i : Nat) (o : Oper), ops[i]? = some o → dstOk n o

def bf (ops : Array Oper) (i j : Nat) : Prop := ((befL ops.toList []).getD i 0).testBit j = true

section
variable {E : Env} {ops : Array Oper} {n base : Nat} {st : Nat → St} {fs : List Foot} (tr : Trace E ops n base st fs)
include tr

omit [Syms] in
theorem Trace.slotFoot {p q : Nat} {op oq : Oper} (hpq : p < q) (hp : ops[p]? = some op) (hq : ops[q]? = some oq) : bf ops q p ∨ footOk (slotsOf ops.toList op) (slotsOf ops.toList oq) = true := by
  have := feetOk_spec tr.slots p q (slotsOf ops.toList op) (slotsOf ops.toList oq) hpq (by simp [hp]) (by simp [hq])
  rw [Nat.zero_add, Bool.or_eq_true] at this
  exact this

omit [Syms] in
theorem Trace.heapFoot {p q : Nat} {f g : Foot} (hpq : p < q) (hp : fs[p]? = some f) (hq : fs[q]? = some g) : bf ops q p ∨ footOk f g = true := by
  have := feetOk_spec tr.feet p q f g hpq hp hq
  rw [Nat.zero_add, Bool.or_eq_true] at this
  exact this

omit [Syms] in
theorem Trace.stepG {j : Nat} {o : Oper} {f : Foot} (ho : ops[j]? = some o) (hf : fs[j]? = some f) : (∀ k, (st (j + 1)).fr.has k = (st j).fr.has k) ∧ (∀ t, o.dst ≠ some t → (st (j + 1)).fr.get t = (st j).fr.get t) ∧ (f.bar = false → StepD o f (st j) (st (j + 1))) := by
  obtain ⟨f', h1, h2⟩ := tr.step j o ho
  rw [hf] at h1; cases h1
  obtain ⟨f'', h3, h4, h5, _, h6⟩ := stepD_sound h2
  cases h3
  exact ⟨h4, h5, fun hb => (h6 hb).1⟩

omit [Syms] in
theorem Trace.foot {j : Nat} {o : Oper} (ho : ops[j]? = some o) : ∃ f, fs[j]? = some f := let ⟨f, h, _⟩ := tr.step j o ho; ⟨f, h⟩

omit [Syms] in
theorem Trace.has' : ∀ {k : Nat}, k ≤ ops.size → ∀ i, (st k).fr.has i = (st 0).fr.has i
  | 0, _ => fun _ => rfl
  | k + 1, hk => fun i => by
    have ho := Array.getElem?_eq_getElem (xs := ops) (show k < ops.size by omega)
    obtain ⟨f, hf⟩ := tr.foot ho
    exact ((tr.stepG ho hf).1 i).trans (Trace.has' (k := k) (by omega) i)

omit [Syms] in
theorem Trace.same {p : Nat} : ∀ {k : Nat}, p ≤ k → k ≤ ops.size → (∀ j f, p ≤ j → j < k → fs[j]? = some f → f.bar = false) → (st k).F = (st p).F ∧ (st k).nx = (st p).nx
  | 0, h1, _, _ => by rw [Nat.le_zero.1 h1]; exact ⟨rfl, rfl⟩
  | k + 1, h1, h2, h3 => by
    by_cases e : p = k + 1
    · rw [e]; exact ⟨rfl, rfl⟩
    · have ho := Array.getElem?_eq_getElem (xs := ops) (show k < ops.size by omega)
      obtain ⟨f, hf⟩ := tr.foot ho
      have hs := (tr.stepG ho hf).2.2 (h3 k f (by omega) (by omega) hf)
      obtain ⟨g1, g2⟩ := Trace.same (k := k) (by omega) (by omega) fun j f a b c => h3 j f a (by omega) c
      exact ⟨hs.F.trans g1, hs.nx.trans g2⟩

omit [Syms] in
theorem Trace.slot {p t : Nat} : ∀ {k : Nat}, p ≤ k → k ≤ ops.size → (∀ j o, p ≤ j → j < k → ops[j]? = some o → o.dst ≠ some t) → (st k).fr.get t = (st p).fr.get t
  | 0, h1, _, _ => by rw [Nat.le_zero.1 h1]
  | k + 1, h1, h2, h3 => by
    by_cases e : p = k + 1
    · rw [e]
    · have ho := Array.getElem?_eq_getElem (xs := ops) (show k < ops.size by omega)
      obtain ⟨f, hf⟩ := tr.foot ho
      rw [(tr.stepG ho hf).2.1 t (h3 k _ (by omega) (by omega) ho)]
      exact Trace.slot (by omega) (by omega) fun j o a b c => h3 j o a (by omega) c

omit [Syms] in
theorem Trace.cell {p b : Nat} : ∀ {k : Nat}, p ≤ k → k ≤ ops.size → (∀ j f, p ≤ j → j < k → fs[j]? = some f → ¬ (b ∈ f.wr ∨ f.bar = true)) → hget (st k).H b = hget (st p).H b
  | 0, h1, _, _ => by rw [Nat.le_zero.1 h1]
  | k + 1, h1, h2, h3 => by
    by_cases e : p = k + 1
    · rw [e]
    · have ho := Array.getElem?_eq_getElem (xs := ops) (show k < ops.size by omega)
      obtain ⟨f, hf⟩ := tr.foot ho
      have h4 := h3 k f (by omega) (by omega) hf
      have hb : f.bar = false := by cases hb : f.bar with
        | false => rfl
        | true => exact absurd (.inr hb) h4
      rw [((tr.stepG ho hf).2.2 hb).hp b (fun hw => h4 (.inl hw))]
      exact Trace.cell (by omega) (by omega) fun j o a b c => h3 j o a (by omega) c

omit tr in
/-- What has been done so far. -/
structure Inv (ops : Array Oper) (st : Nat → St) (fs : List Foot) (S : Nat → Prop) (u : St) : Prop where
  fr : ∀ t k, k ≤ ops.size → (∀ j o, ops[j]? = some o → o.dst = some t → (S j ↔ j < k)) → u.fr.get t = (st k).fr.get t
  hp : ∀ b k, k ≤ ops.size → (∀ j f, j < ops.size → fs[j]? = some f → (b ∈ f.wr ∨ f.bar = true) → (S j ↔ j < k)) → hget u.H b = hget (st k).H b
  F : ∀ k, k ≤ ops.size → (∀ j f, j < ops.size → fs[j]? = some f → f.bar = true → (S j ↔ j < k)) → FAgree (st k).F u.F ∧ u.nx = (st k).nx
  has : ∀ k, u.fr.has k = (st 0).fr.has k
  closed : ∀ i, i < ops.size → S i → ∀ j, bf ops i j → S j

omit [Syms] in
/-- The state of the text's own order is one. -/
theorem Trace.inv {S : Nat → Prop} {p : Nat} (hp : p ≤ ops.size) (hS : ∀ j, j < ops.size → (S j ↔ j < p)) (hc : ∀ i, i < ops.size → S i → ∀ j, bf ops i j → S j) : Inv ops st fs S (st p) := by
  refine ⟨fun t k hk h => ?_, fun b k hk h => ?_, fun k hk h => ?_, tr.has' hp, hc⟩
  · rcases Nat.le_total p k with hle | hle
    · exact (tr.slot hle hk fun j o h1 h2 ho hd => by
        have hj := (Array.getElem?_eq_some_iff.1 ho).1
        have := (h j o ho hd).2 h2
        rw [hS j hj] at this; omega).symm
    · exact tr.slot hle hp fun j o h1 h2 ho hd => by
        have hj := (Array.getElem?_eq_some_iff.1 ho).1
        have := (h j o ho hd).1 ((hS j hj).2 h2)
        omega
  · rcases Nat.le_total p k with hle | hle
    · exact (tr.cell hle hk fun j f h1 h2 hf hw => by
        have := (h j f (by omega) hf hw).2 h2
        rw [hS j (by omega)] at this; omega).symm
    · exact tr.cell hle hp fun j f h1 h2 hf hw => by
        have := (h j f (by omega) hf hw).1 ((hS j (by omega)).2 h2)
        omega
  · rcases Nat.le_total p k with hle | hle
    · obtain ⟨g1, g2⟩ := tr.same hle hk fun j f h1 h2 hf => by
        cases hb : f.bar with
        | false => rfl
        | true =>
          have := (h j f (by omega) hf hb).2 h2
          rw [hS j (by omega)] at this; omega
      exact ⟨by rw [g1]; exact fun _ => rfl, g2.symm⟩
    · obtain ⟨g1, g2⟩ := tr.same hle hp fun j f h1 h2 hf => by
        cases hb : f.bar with
        | false => rfl
        | true =>
          have := (h j f (by omega) hf hb).1 ((hS j (by omega)).2 h2)
          omega
      exact ⟨by rw [g1]; exact fun _ => rfl, g2⟩

omit [Syms] in
theorem Trace.start {S : Nat → Prop} (hS : ∀ j, ¬ S j) : Inv ops st fs S (st 0) :=
  tr.inv (Nat.zero_le _) (fun j _ => ⟨fun h => absurd h (hS j), fun h => by omega⟩) fun i _ h => absurd h (hS i)

omit [Syms] in
theorem Trace.next {S S' : Nat → Prop} {u : St} (hv : Inv ops st fs S u) {i : Nat} {o : Oper} {f : Foot} (ho : ops[i]? = some o) (hf : fs[i]? = some f) (hbar : f.bar = false) (hi : ¬ S i) (hb : ∀ j, bf ops i j → S j) (hS' : ∀ j, S' j ↔ (S j ∨ j = i)) :
    ∃ u', stepOp E ops.toList (base + STRIDE * i) o u = .at u' ∧ u'.nx = u.nx ∧ Inv ops st fs S' u' := by
  have hilt : i < ops.size := (Array.getElem?_eq_some_iff.1 ho).1
  obtain ⟨f', hf', hstep⟩ := tr.step i o ho
  rw [hf] at hf'; cases hf'
  obtain ⟨f'', h3, _, _, _, hgood⟩ := stepD_sound hstep
  cases h3
  obtain ⟨hsd, hsu⟩ := hgood hbar
  have heapSide : ∀ j fj, j < ops.size → fs[j]? = some fj → (bf ops i j ∨ bf ops j i → False) → j ≠ i → footOk f fj = true ∨ footOk fj f = true := by
    intro j fj hjl hj hn hne
    rcases Nat.lt_or_gt_of_ne hne with h | h
    · rcases tr.heapFoot h hj hf with h' | h'
      · exact (hn (.inl h')).elim
      · exact .inr h'
    · rcases tr.heapFoot h hf hj with h' | h'
      · exact (hn (.inr h')).elim
      · exact .inl h'
  have atI : ∀ j fj, j < ops.size → fs[j]? = some fj → (∀ g, footOk f g = true ∨ footOk g f = true → g = fj → False) → j ≠ i → (S j ↔ j < i) := by
    intro j fj hjl hj hno hne
    rcases Nat.lt_trichotomy j i with hji | hji | hji
    · refine ⟨fun _ => hji, fun _ => ?_⟩
      rcases tr.heapFoot hji hj hf with h | h
      · exact hb j h
      · exact (hno fj (.inr h) rfl).elim
    · exact absurd hji hne
    · refine ⟨fun h => ?_, fun h => by omega⟩
      rcases tr.heapFoot hji hf hj with h' | h'
      · exact absurd (hv.closed j hjl h i h') hi
      · exact (hno fj (.inl h') rfl).elim
  have noBar : ∀ j fj, j < ops.size → fs[j]? = some fj → fj.bar = true → (S j ↔ j < i) := by
    intro j fj hjl hj hbj
    by_cases hne : j = i
    · subst hne; rw [hf] at hj; cases hj; rw [hbar] at hbj; cases hbj
    · refine atI j fj hjl hj (fun g hg e => ?_) hne
      subst e
      rcases hg with hg | hg
      · rw [(footOk_bar hg).2] at hbj; cases hbj
      · rw [(footOk_bar hg).1] at hbj; cases hbj
  obtain ⟨F1, F2⟩ := hv.F i (by omega) noBar
  obtain ⟨u', g1, g2⟩ := hsu u F1 (fun t ht => by
      refine hv.fr t i (by omega) fun j oj hj hd => ?_
      rcases Nat.lt_trichotomy j i with hji | hji | hji
      · refine ⟨fun _ => hji, fun _ => ?_⟩
        rcases tr.slotFoot hji hj ho with h | h
        · exact hb j h
        · exact absurd ht ((footOk_spec h).1 t (by simp [slotsOf, hd, optL]))
      · subst hji; exact ⟨fun h => absurd h hi, fun h => absurd h (Nat.lt_irrefl _)⟩
      · refine ⟨fun h => ?_, fun h => by omega⟩
        rcases tr.slotFoot hji ho hj with h' | h'
        · exact absurd (hv.closed j (Array.getElem?_eq_some_iff.1 hj).1 h i h') hi
        · exact absurd ht ((footOk_spec h').2.2 t (by simp [slotsOf, hd, optL])))
    (fun b hbr => by
      refine hv.hp b i (by omega) fun j fj hjl hj hw => ?_
      rcases hw with hw | hw
      · by_cases hne : j = i
        · subst hne; exact ⟨fun h => absurd h hi, fun h => absurd h (Nat.lt_irrefl _)⟩
        · rcases Nat.lt_or_gt_of_ne hne with hji | hji
          · refine ⟨fun _ => hji, fun _ => ?_⟩
            rcases tr.heapFoot hji hj hf with h | h
            · exact hb j h
            · exact absurd hbr ((footOk_spec h).1 b hw)
          · refine ⟨fun h => ?_, fun h => by omega⟩
            rcases tr.heapFoot hji hf hj with h' | h'
            · exact absurd (hv.closed j hjl h i h') hi
            · exact absurd hbr ((footOk_spec h').2.2 b hw)
      · exact noBar j fj hjl hj hw)
    (fun t ht => by
      have := tr.has t (tr.dst i o ho t ht)
      exact ⟨by rw [tr.has' (by omega)]; exact this, by rw [hv.has]; exact this⟩)
  -- what comes behind i and was done already does not clash with it
  have later : ∀ j fj, i < j → j < ops.size → fs[j]? = some fj → S j → footOk f fj = true := by
    intro j fj hij hjl hj hs
    rcases tr.heapFoot hij hf hj with h' | h'
    · exact absurd (hv.closed j hjl hs i h') hi
    · exact h'
  refine ⟨u', g1, g2.nx, fun t k hk h => ?_, fun b k hk h => ?_, fun k hk h => ?_, fun k => (g2.has k).trans (hv.has k), fun j hj hSj q hq => ?_⟩
  · by_cases hd : o.dst = some t
    · have hik : i < k := (h i o ho hd).1 ((hS' i).2 (.inr rfl))
      rw [g2.dst t hd]
      refine (tr.slot (p := i + 1) hik hk fun j oj h1 h2 hj hdj => ?_).symm
      rcases (hS' j).1 ((h j oj hj hdj).2 h2) with hs | hs
      · rcases tr.slotFoot (show i < j by omega) ho hj with h' | h'
        · exact hi (hv.closed j (by omega) hs i h')
        · exact (footOk_spec h').2.1 t (by simp [slotsOf, hd, optL]) (by simp [slotsOf, hdj, optL])
      · omega
    · rw [g2.fr t hd]
      refine hv.fr t k hk fun j oj hj hdj => ?_
      rw [← h j oj hj hdj, hS' j]
      refine ⟨.inl, fun hh => hh.resolve_right fun e => ?_⟩
      subst e
      rw [ho] at hj; cases hj
      exact hd hdj
  · by_cases hw : b ∈ f.wr
    · have hik : i < k := (h i f hilt hf (.inl hw)).1 ((hS' i).2 (.inr rfl))
      rw [g2.hw b hw]
      refine (tr.cell (p := i + 1) hik hk fun j fj h1 h2 hj hwj => ?_).symm
      rcases (hS' j).1 ((h j fj (by omega) hj hwj).2 h2) with hs | hs
      · have hok := later j fj (by omega) (by omega) hj hs
        rcases hwj with hwj | hwj
        · exact (footOk_spec hok).2.1 b hw hwj
        · rw [(footOk_bar hok).2] at hwj; cases hwj
      · omega
    · rw [g2.hp b hw]
      refine hv.hp b k hk fun j fj hjl hj hwj => ?_
      rw [← h j fj hjl hj hwj, hS' j]
      refine ⟨.inl, fun hh => hh.resolve_right fun e => ?_⟩
      subst e
      rw [hf] at hj; cases hj
      rcases hwj with hwj | hwj
      · exact hw hwj
      · rw [hbar] at hwj; cases hwj
  · obtain ⟨k1, k2⟩ := hv.F k hk fun j fj hjl hj hbj => by
      rw [← h j fj hjl hj hbj, hS' j]
      refine ⟨.inl, fun hh => hh.resolve_right fun e => ?_⟩
      subst e
      rw [hf] at hj; cases hj
      rw [hbar] at hbj; cases hbj
    exact ⟨fun b => (g2.F b).trans (k1 b), g2.nx.trans k2⟩
  · rcases (hS' j).1 hSj with hs | rfl
    · exact (hS' q).2 (.inl (hv.closed j hj hs q hq))
    · exact (hS' q).2 (.inl (hb q hq))

omit [Syms] in
theorem Trace.stop {S : Nat → Prop} {u : St} {p : Nat} (hv : Inv ops st fs S u) (hp : p ≤ ops.size) (hS : ∀ j, j < ops.size → (S j ↔ j < p)) : StEq n u (st p) := by
  obtain ⟨k1, k2⟩ := hv.F p hp fun j f hj _ _ => hS j hj
  refine ⟨fun t => ?_, fun b => ?_, fun b => (k1 b).symm, k2.symm, fun k hk => by rw [tr.has' hp]; exact tr.has k hk⟩
  · exact (hv.fr t p hp fun j o hj _ => hS j (Array.getElem?_eq_some_iff.1 hj).1).symm
  · exact (hv.hp b p hp fun j f hj _ _ => hS j hj).symm

omit [Syms] in
/-- An operation that has the heap for itself: what comes ahead of it in the text was done, no more. -/
theorem Trace.alone {S : Nat → Prop} {u : St} (hv : Inv ops st fs S u) {i : Nat} {f : Foot} (hi' : i < ops.size) (hf : fs[i]? = some f) (hbar : f.bar = true) (hi : ¬ S i) (hb : ∀ j, bf ops i j → S j) : ∀ j, j < ops.size → (S j ↔ j < i) := by
  intro j hj
  obtain ⟨fj, hfj⟩ := tr.foot (Array.getElem?_eq_getElem hj)
  rcases Nat.lt_trichotomy j i with hji | hji | hji
  · refine ⟨fun _ => hji, fun _ => ?_⟩
    rcases tr.heapFoot hji hfj hf with h | h
    · exact hb j h
    · rw [(footOk_bar h).2] at hbar; cases hbar
  · subst hji; exact ⟨fun h => absurd h hi, fun h => absurd h (Nat.lt_irrefl _)⟩
  · refine ⟨fun h => ?_, fun h => by omega⟩
    rcases tr.heapFoot hji hf hfj with h' | h'
    · exact absurd (hv.closed j hj h i h') hi
    · rw [(footOk_bar h').1] at hbar; cases hbar

omit tr in
omit [Syms] in
theorem countP_less {p q : Nat → Bool} {i : Nat} : ∀ (l : List Nat), i ∈ l → p i = true → q i = false → (∀ j, q j = true → p j = true) → l.countP q < l.countP p
  | [], h, _, _, _ => by simp at h
  | a :: l, h, hp, hq, hj => by
    have hle : l.countP q ≤ l.countP p := List.countP_mono_left fun x _ hx => hj x hx
    rcases List.mem_cons.1 h with rfl | h
    · rw [List.countP_cons_of_pos hp, List.countP_cons_of_neg (by simp [hq])]
      omega
    · have ih := countP_less l h hp hq hj
      by_cases hqa : q a = true
      · rw [List.countP_cons_of_pos hqa, List.countP_cons_of_pos (hj a hqa)]; omega
      · rw [List.countP_cons_of_neg hqa]
        have : l.countP p ≤ (a :: l).countP p := by rw [List.countP_cons]; omega
        omega

def listedIn (listed : Array Bool) (j : Nat) : Prop := listed.getD j false = true

omit [Syms] in
theorem Trace.ready {listed : Array Bool} (hsz : listed.size = ops.size) (hr : Region.ready .any ops listed = []) : ∀ j, j < ops.size → listedIn listed j := by
  intro j
  induction j using Nat.strongRecOn with
  | _ j ih =>
    intro hj
    unfold listedIn
    cases hl : listed.getD j false with
    | true => rfl
    | false =>
      exfalso
      have ho := Array.getElem?_eq_getElem (xs := ops) hj
      have hm : j ∈ Region.ready .any ops listed := by
        rw [mem_ready]
        refine ⟨?_, _, ho, fun e he hb => ?_⟩
        · simp [hsz, hj] at hl ⊢; exact hl
        · have := edgesLow_spec tr.low j _ (by rw [Array.getElem?_toList]; exact ho) e (by simpa using he) hb
          exact ih e.on (by omega) (by omega)
      rw [hr] at hm; cases hm

end

section
variable {P : Program} {T : Tabs} {c : Ctx} {E : Env} {ops : Array Oper} {n base : Nat} {st : Nat → St} {fs : List Foot}

theorem sim_any (hT : TyOK P T) (hE : E.T = T) (hC : CallOK P E.call) (tr : Trace E ops n base st fs) {Q : Exit → Act → World → Prop} {m0 : Map} {w0 : World} {d0 : List Deferred}
    (hQ : ∀ a' w' m', At n c m' (st ops.size) a' w' → a'.defers = d0 → Moves c m0 (st 0) w0 base m' (st ops.size) w' → Q .normal a' w') :
    ∀ (fuel : Nat) (listed : Array Bool) (m : Map) (w : World) (u : St) (a : Act), listed.size = ops.size → (List.range ops.size).countP (fun i => !listed.getD i false) ≤ fuel → Inv ops st fs (listedIn listed) u → At n c m u a w → a.defers = d0 →
      (∀ i, i < ops.size → ¬ listedIn listed i → ∀ b, base + STRIDE * i ≤ b → b < base + STRIDE * i + STRIDE → m b = none) → base + STRIDE * ops.size ≤ u.nx → Moves c m0 (st 0) w0 base m u w → wpAny P .any ops Q fuel listed a w := by
  intro fuel
  induction fuel with
  | zero =>
    intro listed m w u a hsz hcnt hv ha hd hfree hlt hmv
    have hall : ∀ j, j < ops.size → listedIn listed j := by
      intro j hj
      have h0 : (List.range ops.size).countP (fun i => !listed.getD i false) = 0 := by omega
      have := List.countP_eq_zero.1 h0 j (List.mem_range.2 hj)
      unfold listedIn
      cases h : listed.getD j false with
      | true => rfl
      | false => rw [h] at this; simp at this
    refine ⟨?_, hQ a w m (ha.congr (tr.stop hv (Nat.le_refl _) fun j hj => ⟨fun _ => hj, fun _ => hall j hj⟩)) hd (hmv.congr (tr.stop hv (Nat.le_refl _) fun j hj => ⟨fun _ => hj, fun _ => hall j hj⟩))⟩
    cases hr : Region.ready .any ops listed with
    | nil => rfl
    | cons i r =>
      exfalso
      have hm : i ∈ Region.ready .any ops listed := by rw [hr]; simp
      obtain ⟨h0, o, ho, _⟩ := mem_ready.1 hm
      have hi := (Array.getElem?_eq_some_iff.1 ho).1
      have := hall i hi
      unfold listedIn at this
      simp [hsz, hi] at h0 this
      rw [h0] at this; cases this
  | succ fuel ih =>
    intro listed m w u a hsz hcnt hv ha hd hfree hlt hmv
    refine ⟨fun hr => ?_, fun i hi => ?_⟩
    · have hall := tr.ready hsz hr
      exact hQ a w m (ha.congr (tr.stop hv (Nat.le_refl _) fun j hj => ⟨fun _ => hj, fun _ => hall j hj⟩)) hd (hmv.congr (tr.stop hv (Nat.le_refl _) fun j hj => ⟨fun _ => hj, fun _ => hall j hj⟩))
    · obtain ⟨h0, o, ho, hedge⟩ := mem_ready.1 hi
      have hilt := (Array.getElem?_eq_some_iff.1 ho).1
      have hnot : ¬ listedIn listed i := by
        unfold listedIn
        simp [hsz, hilt] at h0 ⊢
        exact h0
      have hbefore : ∀ j, bf ops i j → listedIn listed j := by
        intro j hj
        obtain ⟨e, k1, k2, k3, k4⟩ := (befL_spec ops.toList []).2 i j o (by rw [Array.getElem?_toList]; exact ho) (by simpa [bf] using hj)
        have hon : listedIn listed e.on := hedge e (by simpa using k1) k2
        rcases k4 with k4 | k4
        · rw [← k4]; exact hon
        · exact hv.closed e.on (by simp at k3; omega) hon j k4
      have hset : ∀ j, listedIn (listed.setIfInBounds i true) j ↔ (listedIn listed j ∨ j = i) := by
        intro j
        unfold listedIn
        by_cases hji : j = i
        · subst hji; simp [hsz, hilt]
        · rw [getD_set_ne false (Ne.symm hji)]
          exact ⟨.inl, fun h => h.resolve_right hji⟩
      have hmul : STRIDE * i + STRIDE ≤ STRIDE * ops.size := by
        rw [← Nat.mul_succ]; exact Nat.mul_le_mul_left _ hilt
      have hless := countP_less (p := fun j => !listed.getD j false) (q := fun j => !(listed.setIfInBounds i true).getD j false) (i := i) (List.range ops.size) (List.mem_range.2 hilt)
          (by unfold listedIn at hnot; simpa using hnot) (by have := (hset i).2 (.inr rfl); unfold listedIn at this; rw [this]; rfl) (fun j hj => by
            cases hl : listed.getD j false with
            | false => rfl
            | true =>
              have := (hset j).2 (.inl hl)
              unfold listedIn at this
              rw [this] at hj; exact hj)
      obtain ⟨f, hf⟩ := tr.foot ho
      -- one step, from a state that stands for what is there
      have go : ∀ v v' : St, At n c m v a w → Moves c m0 (st 0) w0 base m v w → v.nx = u.nx → stepOp E ops.toList (base + STRIDE * i) o v = .at v' → Inv ops st fs (listedIn (listed.setIfInBounds i true)) v' →
          wpOp P ops Q i (wpAny P .any ops Q fuel (listed.setIfInBounds i true)) a w := by
        intro v v' hav hmv' hnx hu hv'
        refine sim_step hT hE hC hav (hfree i hilt hnot) (by omega) ho (tr.dst i o ho) hu fun cv m1 w1 ha1 hmv1 hdom => ?_
        refine ih _ m1 w1 v' _ (by simpa using hsz) (by omega) hv' ha1 (by rw [put_defers]; exact hd) (fun j hj hnj b hb1 hb2 => ?_) (by have := hmv1.le; omega) (hmv'.trans ⟨hmv1.ext, hmv1.le, fun b hb => ?_⟩)
        · cases hm : m1 b with
          | none => rfl
          | some L =>
            exfalso
            have hji : j ≠ i := fun e => hnj ((hset j).2 (.inr e))
            have hnj' : ¬ listedIn listed j := fun h => hnj ((hset j).2 (.inl h))
            have hmulj : STRIDE * j + STRIDE ≤ STRIDE * ops.size := by
              rw [← Nat.mul_succ]; exact Nat.mul_le_mul_left _ hj
            rcases hdom b (by rw [hm]; simp) with h1 | ⟨h1, h2⟩ | ⟨h1, h2⟩
            · exact h1 (hfree j hj hnj' b hb1 hb2)
            · unfold STRIDE at *; omega
            · omega
        · rcases hmv1.dom b hb with h1 | ⟨h1, h2⟩
          · exact .inl h1
          · exact .inr ⟨by omega, h2⟩
      cases hbar : f.bar with
      | false =>
        obtain ⟨u', hu, hnx', hv'⟩ := tr.next hv ho hf hbar hnot hbefore hset
        exact go u u' ha hmv rfl hu hv'
      | true =>
        have hal := tr.alone hv hilt hf hbar hnot hbefore
        have heq : StEq n u (st i) := tr.stop hv (by omega) hal
        obtain ⟨f', hf', hstep⟩ := tr.step i o ho
        rw [hf] at hf'; cases hf'
        obtain ⟨f'', h3, _, _, hg, _⟩ := stepD_sound hstep
        cases h3
        have hu := hg hbar
        have hv' : Inv ops st fs (listedIn (listed.setIfInBounds i true)) (st (i + 1)) := by
          refine tr.inv hilt (fun j hj => ?_) fun j hj hSj q hq => ?_
          · rw [hset j, hal j hj]; omega
          · rcases (hset j).1 hSj with hs | rfl
            · exact (hset q).2 (.inl (hv.closed j hj hs q hq))
            · exact (hset q).2 (.inl (hbefore q hq))
        exact go (st i) (st (i + 1)) (ha.congr heq) (hmv.congr heq) heq.nx hu hv'

end
end Go.Proofs.YtopkeglpafdlfaaGreat.VS
