/- How the abstract machine's values and heap stand to the model's: the relation, and that it is kept. Conditions: none. -/
import Derived.Test.YtopkeglpafdlfaaGreatVSK
namespace Go.Proofs.YtopkeglpafdlfaaGreat.VS

/-- Where an abstract number lies in the model's memory: its block, its first cell there, the cells of an element, how many elements, the cells of the block. -/
structure Loc where
  blk : Nat
  off : Nat
  sz : Nat
  ext : Nat
  csz : Nat

abbrev Map := Nat → Option Loc
def noMap : Map := fun _ => none

/-- What the unknown numbers and texts are. -/
class Syms where
  int : Nat → Int
  str : Nat → List UInt8

variable [Syms]

inductive VR (ok : Nat → Prop) (h : Array Obj) : Map → AV → Value → Prop
  | dead {m v} : VR ok h m .dead v
  | bool {m} (b : Bool) : VR ok h m (.bool b) (.bool b)
  | int {m} (k : IntKind) (n : Int) : VR ok h m (.int k n) (.int k n)
  | rng {m} (i : Nat) (k : IntKind) (lo hi n : Int) : n = Syms.int i → lo ≤ n → n ≤ hi → VR ok h m (.rng i k lo hi) (.int k n)
  | lin {m} (i : Nat) (a c lo hi n : Int) : n = a * Syms.int i + c → lo ≤ Syms.int i → Syms.int i ≤ hi → VR ok h m (.lin i a c lo hi) (.int .i64 n)
  | ustr {m} (i : Nat) (l : List (List UInt8)) (s : ByteArray) : s.data.toList = Syms.str i → s.data.toList ∉ l → VR ok h m (.ustr i l) (.string s)
  | str {m} (l : List UInt8) (s : ByteArray) : s.data.toList = l → VR ok h m (.str l) (.string s)
  | nilp {m} : VR ok h m .nilp (.pointer none)
  | nilf {m} : VR ok h m .nilf .nilFunc
  | nili {m} : VR ok h m .nili .nilIface
  | nilm {m} : VR ok h m .nilm (.map none)
  | ifc {m t a v} : VR ok h m a v → VR ok h m (.ifc t a) (.iface t v)
  | fn {m f cs} {vs : Array Value} (g : Nat → Value) : vs.size = cs.length → (∀ j, j < cs.length → vs[j]? = some (g j)) →
      (∀ j x, cs[j]? = some x → VR ok h m x (g j)) → VR ok h m (.fn f cs) (.func (.func f) #[] vs)
  | agg {m cs} {vs : Array Value} (g : Nat → Value) : vs.size = cs.length → (∀ j, j < cs.length → vs[j]? = some (g j)) →
      (∀ j x, cs[j]? = some x → VR ok h m x (g j)) → VR ok h m (.agg cs) (.agg vs)
  | tup {m cs} {vs : Array Value} (g : Nat → Value) : vs.size = cs.length → (∀ j, j < cs.length → vs[j]? = some (g j)) →
      (∀ j x, cs[j]? = some x → VR ok h m x (g j)) → VR ok h m (.tup cs) (.tuple vs)
  | nils {m} : VR ok h m .nils (.slice none 0 0)
  | emp {m a} : VR ok h m .emp (.slice a 0 0)
  | slE {m a c} : (a = none → c = 0) → VR ok h m (.sl []) (.slice a 0 c)
  | nev {m a c} : VR ok h m .nev (.slice (some a) 0 c)
  | sl {m xs n β o C e z s c} (g : Nat → Value) : xs ≠ [] → n = xs.length → ok β → h[β]? = some (.cells C e z) → 0 < s → (∀ x ∈ xs, x.cells.length = s) → n ≤ c →
      (∀ j, j < (flat xs).length → C[o + j]? = some (g j)) → (∀ j x, (flat xs)[j]? = some x → VR ok h noMap x (g j)) →
      VR ok h m (.sl xs) (.slice (some ⟨β, o, none⟩) n c)
  | oslE {m s b lo L a} : m b = some L → L.ext ≤ lo → 0 < s → L.sz = s → VR ok h m (.osl s b lo 0) (.slice (some a) 0 0)
  | osl {m s b lo len L c β o} : m b = some L → lo + len ≤ L.ext → 0 < s → L.sz = s → β = L.blk → o = L.off + lo * s → L.ext ≤ lo + c → L.off + (lo + c) * s ≤ L.csz →
      VR ok h m (.osl s b lo len) (.slice (some ⟨β, o, none⟩) len c)
  | ptr {m b L off β o} : m b = some L → β = L.blk → o = L.off + off → VR ok h m (.ptr b off) (.pointer (some ⟨β, o, none⟩))
  | eptr {m b L i off β o} : m b = some L → β = L.blk → o = L.off + i * L.sz + off → VR ok h m (.eptr b i off) (.pointer (some ⟨β, o, none⟩))
  | cptr {m x β o C e z} (g : Nat → Value) : ok β → h[β]? = some (.cells C e z) → (∀ j, j < x.cells.length → C[o + j]? = some (g j)) →
      (∀ j y, x.cells[j]? = some y → VR ok h noMap y (g j)) → VR ok h m (.cptr x) (.pointer (some ⟨β, o, none⟩))
  | mp {m b L β} : m b = some L → β = L.blk → VR ok h m (.mp b) (.map (some β))
  | tl {m t xs v} : VR ok h m (.sl (encs t xs)) v → VR ok h m (.tl t xs) v
  | ub {m} (b : Bool) : VR ok h m (.ub b) (.bool b)
  | gsE {m g b a} : VR ok h m (.gs g b 0) (.slice a 0 0)
  | gs {m g b n a c} : VR ok h m (.osl g.size b 0 n) (.slice a n c) → VR ok h m (.gs g b n) (.slice a n c)

def MLe (m m' : Map) : Prop := ∀ b L, m b = some L → m' b = some L

omit [Syms] in
theorem MLe.refl (m : Map) : MLe m m := fun _ _ h => h
omit [Syms] in
theorem MLe.trans {a b c : Map} (h : MLe a b) (k : MLe b c) : MLe a c := fun x L hx => k x L (h x L hx)

/-- What is told by rows that stay is told still. -/
theorem VR.mono {ok ok' : Nat → Prop} {h h' : Array Obj} (hk : ∀ β C e z, ok β → h[β]? = some (.cells C e z) → ok' β ∧ h'[β]? = some (.cells C e z)) {m : Map} {a : AV} {v : Value}
    (H : VR ok h m a v) : ∀ {m' : Map}, MLe m m' → VR ok' h' m' a v := by
  induction H with
  | dead => intro m' _; exact .dead
  | bool b => intro m' _; exact .bool b
  | int k n => intro m' _; exact .int k n
  | rng i k lo hi n h0 h1 h2 => intro m' _; exact .rng i k lo hi n h0 h1 h2
  | lin i a c lo hi n h0 h1 h2 => intro m' _; exact .lin i a c lo hi n h0 h1 h2
  | ustr i l s h1 h2 => intro m' _; exact .ustr i l s h1 h2
  | str l s hs => intro m' _; exact .str l s hs
  | nilp => intro m' _; exact .nilp
  | nilf => intro m' _; exact .nilf
  | nili => intro m' _; exact .nili
  | nilm => intro m' _; exact .nilm
  | ifc _ ih => intro m' hm; exact .ifc (ih hm)
  | fn g h1 h2 _ ih => intro m' hm; exact .fn g h1 h2 fun j x hx => ih j x hx hm
  | agg g h1 h2 _ ih => intro m' hm; exact .agg g h1 h2 fun j x hx => ih j x hx hm
  | tup g h1 h2 _ ih => intro m' hm; exact .tup g h1 h2 fun j x hx => ih j x hx hm
  | nils => intro m' _; exact .nils
  | emp => intro m' _; exact .emp
  | slE h1 => intro m' _; exact .slE h1
  | nev => intro m' _; exact .nev
  | sl g h1 h2 h3 h4 h5 h6 h7 h8 _ ih => intro m' _; exact .sl g h1 h2 (hk _ _ _ _ h3 h4).1 (hk _ _ _ _ h3 h4).2 h5 h6 h7 h8 fun j x hx => ih j x hx (MLe.refl _)
  | oslE h1 h2 h3 h4 => intro m' hm; exact .oslE (hm _ _ h1) h2 h3 h4
  | osl h1 h2 h3 h4 h5 h6 h7 h8 => intro m' hm; exact .osl (hm _ _ h1) h2 h3 h4 h5 h6 h7 h8
  | ptr h1 h2 h3 => intro m' hm; exact .ptr (hm _ _ h1) h2 h3
  | eptr h1 h2 h3 => intro m' hm; exact .eptr (hm _ _ h1) h2 h3
  | cptr g h1 h2 h3 _ ih => intro m' _; exact .cptr g (hk _ _ _ _ h1 h2).1 (hk _ _ _ _ h1 h2).2 h3 fun j x hx => ih j x hx (MLe.refl _)
  | mp h1 h2 => intro m' hm; exact .mp (hm _ _ h1) h2
  | tl _ ih => intro m' hm; exact .tl (ih hm)
  | ub b => intro m' _; exact .ub b
  | gsE => intro m' _; exact .gsE
  | gs _ ih => intro m' hm; exact .gs (ih hm)

omit [Syms] in
theorem enc_size (t : GT) (x : t.T) : (enc t x).cells.length = t.size := by cases t <;> rfl
omit [Syms] in
theorem GT.size_pos (t : GT) : 0 < t.size := by cases t <;> decide
omit [Syms] in
theorem encs_length (t : GT) (xs : List t.T) : (encs t xs).length = xs.length := by simp [encs]
omit [Syms] in
theorem encs_size (t : GT) (xs : List t.T) : ∀ x ∈ encs t xs, x.cells.length = t.size := by
  intro x hx
  obtain ⟨y, _, rfl⟩ := List.mem_map.1 hx
  exact enc_size t y
omit [Syms] in
theorem enc_one (t : GT) (x : t.T) : (enc t x).fits = true := by cases t <;> rfl
omit [Syms] in
theorem encs_append (t : GT) (xs ys : List t.T) : encs t (xs ++ ys) = encs t xs ++ encs t ys := by simp [encs]

theorem VR.tl_slice {ok : Nat → Prop} {h : Array Obj} {m : Map} {t : GT} {xs : List t.T} {v : Value} (H : VR ok h m (.tl t xs) v) : ∃ a n c, v = .slice a n c := by
  cases H with
  | tl h1 =>
    generalize encs _ _ = l at h1
    cases h1 <;> exact ⟨_, _, _, rfl⟩

theorem VR.tl_iff {ok : Nat → Prop} {h : Array Obj} {m : Map} {t : GT} {xs : List t.T} {v : Value} : VR ok h m (.tl t xs) v ↔ VR ok h m (.sl (encs t xs)) v :=
  ⟨fun H => by cases H with | tl h1 => exact h1, .tl⟩

/-- A row of abstract cells, told by a row of the model's from a place on. -/
def CR (ok : Nat → Prop) (h : Array Obj) (m : Map) (cs : List AV) (C : Array Value) (o : Nat) : Prop :=
  ∀ j x, cs[j]? = some x → ∃ v, C[o + j]? = some v ∧ VR ok h m x v

section
variable {ok : Nat → Prop} {h : Array Obj} {m : Map}

theorem CR.fun {cs : List AV} {C : Array Value} {o : Nat} (H : CR ok h m cs C o) :
    ∃ g : Nat → Value, (∀ j, j < cs.length → C[o + j]? = some (g j)) ∧ ∀ j x, cs[j]? = some x → VR ok h m x (g j) := by
  refine ⟨fun j => (C[o + j]?).getD default, fun j hj => ?_, fun j x hx => ?_⟩
  · obtain ⟨v, hv, _⟩ := H j cs[j] (List.getElem?_eq_getElem hj)
    simp [hv]
  · obtain ⟨v, hv, hr⟩ := H j x hx
    simpa [hv] using hr

theorem CR.mk {cs : List AV} {C : Array Value} {o : Nat} {g : Nat → Value} (h1 : ∀ j, j < cs.length → C[o + j]? = some (g j)) (h2 : ∀ j x, cs[j]? = some x → VR ok h m x (g j)) :
    CR ok h m cs C o := fun j x hx => by
  have hj : j < cs.length := by
    rcases Nat.lt_or_ge j cs.length with hj | hj
    · exact hj
    · simp [List.getElem?_eq_none hj] at hx
  exact ⟨g j, h1 j hj, h2 j x hx⟩

theorem VR.agg' {cs : List AV} {vs : Array Value} (hs : vs.size = cs.length) (H : CR ok h m cs vs 0) : VR ok h m (.agg cs) (.agg vs) := by
  obtain ⟨g, h1, h2⟩ := H.fun
  exact .agg g hs (fun j hj => by simpa using h1 j hj) h2

theorem VR.tup' {cs : List AV} {vs : Array Value} (hs : vs.size = cs.length) (H : CR ok h m cs vs 0) : VR ok h m (.tup cs) (.tuple vs) := by
  obtain ⟨g, h1, h2⟩ := H.fun
  exact .tup g hs (fun j hj => by simpa using h1 j hj) h2

theorem VR.fn' {f : FuncId} {cs : List AV} {vs : Array Value} (hs : vs.size = cs.length) (H : CR ok h m cs vs 0) : VR ok h m (.fn f cs) (.func (.func f) #[] vs) := by
  obtain ⟨g, h1, h2⟩ := H.fun
  exact .fn g hs (fun j hj => by simpa using h1 j hj) h2

theorem VR.agg_inv {cs : List AV} {v : Value} (H : VR ok h m (.agg cs) v) : ∃ vs : Array Value, v = .agg vs ∧ vs.size = cs.length ∧ CR ok h m cs vs 0 := by
  cases H with
  | agg g h1 h2 h3 => exact ⟨_, rfl, h1, CR.mk (fun j hj => by simpa using h2 j hj) h3⟩

theorem VR.tup_inv {cs : List AV} {v : Value} (H : VR ok h m (.tup cs) v) : ∃ vs : Array Value, v = .tuple vs ∧ vs.size = cs.length ∧ CR ok h m cs vs 0 := by
  cases H with
  | tup g h1 h2 h3 => exact ⟨_, rfl, h1, CR.mk (fun j hj => by simpa using h2 j hj) h3⟩

theorem VR.fn_inv {f : FuncId} {cs : List AV} {v : Value} (H : VR ok h m (.fn f cs) v) : ∃ vs : Array Value, v = .func (.func f) #[] vs ∧ vs.size = cs.length ∧ CR ok h m cs vs 0 := by
  cases H with
  | fn g h1 h2 h3 => exact ⟨_, rfl, h1, CR.mk (fun j hj => by simpa using h2 j hj) h3⟩

theorem VR.sl' {xs : List AV} {n β o : Nat} {C : Array Value} {e : TypeId} {z : Nat × Nat} {s c : Nat} (h1 : xs ≠ []) (hn : n = xs.length) (h2 : ok β) (h3 : h[β]? = some (.cells C e z)) (h4 : 0 < s)
    (h5 : ∀ x ∈ xs, x.cells.length = s) (h6 : n ≤ c) (H : CR ok h noMap (flat xs) C o) : VR ok h m (.sl xs) (.slice (some ⟨β, o, none⟩) n c) := by
  obtain ⟨g, k1, k2⟩ := H.fun
  exact .sl g h1 hn h2 h3 h4 h5 h6 k1 k2

theorem CR.mono {ok' : Nat → Prop} {h' : Array Obj} {m' : Map} {cs : List AV} {C : Array Value} {o : Nat}
    (hk : ∀ β C e z, ok β → h[β]? = some (.cells C e z) → ok' β ∧ h'[β]? = some (.cells C e z)) (hm : MLe m m') (H : CR ok h m cs C o) : CR ok' h' m' cs C o :=
  fun j x hx => let ⟨v, hv, hr⟩ := H j x hx; ⟨v, hv, hr.mono hk hm⟩

theorem VR.ptr_inv {b off : Nat} {v : Value} (H : VR ok h m (.ptr b off) v) : ∃ L, m b = some L ∧ v = .pointer (some ⟨L.blk, L.off + off, none⟩) := by
  cases H with
  | ptr h1 h2 h3 => subst h2; subst h3; exact ⟨_, h1, rfl⟩

theorem VR.eptr_inv {b i off : Nat} {v : Value} (H : VR ok h m (.eptr b i off) v) : ∃ L, m b = some L ∧ v = .pointer (some ⟨L.blk, L.off + i * L.sz + off, none⟩) := by
  cases H with
  | eptr h1 h2 h3 => subst h2; subst h3; exact ⟨_, h1, rfl⟩

theorem VR.mp_inv {b : Nat} {v : Value} (H : VR ok h m (.mp b) v) : ∃ L, m b = some L ∧ v = .map (some L.blk) := by
  cases H with
  | mp h1 h2 => subst h2; exact ⟨_, h1, rfl⟩

theorem VR.str_inv {l : List UInt8} {v : Value} (H : VR ok h m (.str l) v) : ∃ s : ByteArray, v = .string s ∧ s.data.toList = l := by
  cases H with
  | str _ s hs => exact ⟨s, rfl, hs⟩

theorem VR.gs_any {g : GT} {b n : Nat} {v : Value} (H : VR ok h m (.gs g b n) v) : ∃ a c, v = .slice a n c := by
  cases H with
  | gsE => exact ⟨_, _, rfl⟩
  | gs _ => exact ⟨_, _, rfl⟩

/-- The cells of a value: a row. -/
theorem VR.cells {a : AV} {v : Value} (H : VR ok h m a v) (ha : ∀ vs, a ≠ .tup vs) (hd : a ≠ .dead) : v.cells.size = a.cells.length ∧ CR ok h m a.cells v.cells 0 := by
  have single : ∀ {a : AV} {v : Value}, a.cells = [a] → v.cells = #[v] → VR ok h m a v → v.cells.size = a.cells.length ∧ CR ok h m a.cells v.cells 0 := by
    intro a v h1 h2 hr
    rw [h1, h2]
    refine ⟨rfl, fun j x hx => ?_⟩
    cases j with
    | zero => simp at hx; subst hx; exact ⟨v, rfl, hr⟩
    | succ j => simp at hx
  have H' := H
  cases H with
  | dead => exact absurd rfl hd
  | tup => exact absurd rfl (ha _)
  | agg g h1 h2 h3 => exact ⟨h1, CR.mk (fun j hj => by simpa [Value.cells] using h2 j hj) h3⟩
  | tl h1 =>
    obtain ⟨a, n, c, rfl⟩ : ∃ a n c, v = .slice a n c := by
      generalize encs _ _ = l at h1
      cases h1 <;> exact ⟨_, _, _, rfl⟩
    exact single rfl rfl H'
  | _ => exact single rfl rfl H'

/-- A cell's value is no aggregate. -/
theorem VR.one {a : AV} {v : Value} (H : VR ok h m a v) (ha : a.one = true) : v.oneCell' = true ∧ v.cells = #[v] := by
  cases H with
  | tl h1 =>
    obtain ⟨a, n, c, rfl⟩ : ∃ a n c, v = .slice a n c := by
      generalize encs _ _ = l at h1
      cases h1 <;> exact ⟨_, _, _, rfl⟩
    exact ⟨rfl, rfl⟩
  | _ => first | exact ⟨rfl, rfl⟩ | simp [AV.one] at ha

end

omit [Syms] in
theorem flat_nil : flat [] = [] := rfl
omit [Syms] in
theorem flat_cons (x : AV) (xs : List AV) : flat (x :: xs) = x.cells ++ flat xs := rfl
omit [Syms] in
theorem flat_append (xs ys : List AV) : flat (xs ++ ys) = flat xs ++ flat ys := by simp [flat]

omit [Syms] in
theorem flat_length {s : Nat} : ∀ {xs : List AV}, (∀ x ∈ xs, x.cells.length = s) → (flat xs).length = xs.length * s
  | [], _ => by simp [flat]
  | x :: xs, h => by
    rw [flat_cons, List.length_append, h x (by simp), flat_length fun y hy => h y (by simp [hy])]
    simp [Nat.add_mul, Nat.add_comm]

omit [Syms] in
theorem flat_getElem? {s : Nat} : ∀ {xs : List AV} {i j : Nat} {x : AV}, (∀ x ∈ xs, x.cells.length = s) → xs[i]? = some x → j < s → (flat xs)[i * s + j]? = x.cells[j]?
  | [], _, _, _, _, hx, _ => by simp at hx
  | y :: xs, 0, j, x, h, hx, hj => by
    simp at hx; subst hx
    rw [flat_cons, Nat.zero_mul, Nat.zero_add, List.getElem?_append_left (by rw [h y (by simp)]; exact hj)]
  | y :: xs, i + 1, j, x, h, hx, hj => by
    simp only [List.getElem?_cons_succ] at hx
    have hy := h y (by simp)
    rw [flat_cons, List.getElem?_append_right (by rw [hy, Nat.add_mul]; omega), hy, ← flat_getElem? (fun z hz => h z (by simp [hz])) hx hj]
    congr 1
    rw [Nat.add_mul]; omega

omit [Syms] in
theorem flat_take {s : Nat} : ∀ {xs : List AV} (n : Nat), (∀ x ∈ xs, x.cells.length = s) → flat (xs.take n) = (flat xs).take (n * s)
  | [], n, _ => by simp [flat]
  | x :: xs, 0, _ => by simp [flat]
  | x :: xs, n + 1, h => by
    have hx := h x (by simp)
    rw [List.take_succ_cons, flat_cons, flat_cons, flat_take n fun y hy => h y (by simp [hy]), List.take_append, List.take_of_length_le (l := x.cells) (by rw [hx, Nat.add_mul]; omega), hx]
    congr 2
    rw [Nat.add_mul]; omega

omit [Syms] in
theorem flat_drop {s : Nat} : ∀ {xs : List AV} (n : Nat), (∀ x ∈ xs, x.cells.length = s) → flat (xs.drop n) = (flat xs).drop (n * s)
  | [], n, _ => by simp [flat]
  | x :: xs, 0, _ => by simp
  | x :: xs, n + 1, h => by
    have hx := h x (by simp)
    rw [List.drop_succ_cons, flat_cons, flat_drop n fun y hy => h y (by simp [hy]), List.drop_append, List.drop_of_length_le (l := x.cells) (by rw [hx, Nat.add_mul]; omega), List.nil_append, hx]
    congr 1
    rw [Nat.add_mul]; omega

theorem CR.take {ok : Nat → Prop} {h : Array Obj} {m : Map} {cs : List AV} {C : Array Value} {o : Nat} (H : CR ok h m cs C o) (n : Nat) : CR ok h m (cs.take n) C o :=
  fun j x hx => H j x (by rw [List.getElem?_take] at hx; split at hx <;> simp_all)

theorem CR.drop {ok : Nat → Prop} {h : Array Obj} {m : Map} {cs : List AV} {C : Array Value} {o : Nat} (H : CR ok h m cs C o) (n : Nat) : CR ok h m (cs.drop n) C (o + n) :=
  fun j x hx => by
    rw [List.getElem?_drop] at hx
    obtain ⟨v, hv, hr⟩ := H _ x hx
    exact ⟨v, by rw [Nat.add_assoc]; exact hv, hr⟩

end Go.Proofs.YtopkeglpafdlfaaGreat.VS
