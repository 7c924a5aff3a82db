/- A library of an abstract machine, joined from 6 texts. Conditions: none. -/
import Derived.Test.YtmkmjjodiicmlaaVM1
import Derived.Laws.IdiomCopy
import Derived.WalkLawsBesides
set_option linter.unusedVariables false
set_option linter.unusedSimpArgs false
set_option linter.unusedSectionVars false
/- The abstract machine's state told by the model's: what each change of the heap does to it. Conditions: none. -/
namespace Go.Proofs.Ytmkmjjodiicmlaa.VS
theorem beq_ne {k b : Nat} (h : ¬ k = b) : k.beq b = false := by
  cases e : k.beq b with
  | false => rfl
  | true => exact absurd (Nat.eq_of_beq_eq_true e) h

variable [Syms]

omit [Syms] in
theorem beq_same (k : Nat) : k.beq k = true := by induction k with
  | zero => rfl
  | succ n ih => exact ih
omit [Syms] in
theorem hget_cons (k : Nat) (o : AObj) (r : Heap) (b : Nat) : hget ((k, o) :: r) b = if k = b then some o else hget r b := by
  simp only [hget]
  by_cases h : k = b
  · subst h; simp
  · simp [beq_ne h, h]

omit [Syms] in
theorem hget_hdel : ∀ (H : Heap) (b c : Nat), hget (hdel H b) c = if b = c then none else hget H c
  | [], b, c => by simp [hdel, hget]
  | (k, o) :: r, b, c => by
    simp only [hdel]
    by_cases h : k = b
    · subst h
      simp only [beq_same, cond_true, hget_cons, hget_hdel r]
      split <;> rfl
    · simp only [beq_ne h, cond_false, hget_cons, hget_hdel r]
      by_cases h1 : k = c
      · subst h1; rw [if_pos rfl, if_neg (fun e => h e.symm)]; try rw [if_pos rfl]
      · simp [h1]

omit [Syms] in
theorem hget_hset : ∀ (H : Heap) (b c : Nat) (o : AObj), hget (hset H b o) c = if b = c then some o else hget H c
  | [], b, c, o => by simp only [hset, hget_cons]
  | (k, o') :: r, b, c, o => by
    simp only [hset]
    by_cases h : k = b
    · subst h
      simp only [beq_same, cond_true, hget_cons, hget_hdel]
      split <;> rfl
    · simp only [beq_ne h, cond_false, hget_cons, hget_hset r]
      by_cases h1 : k = c
      · subst h1; rw [if_pos rfl, if_neg (fun e => h e.symm)]; try rw [if_pos rfl]
      · simp [h1]

omit [Syms] in
theorem isIn_iff (b : Nat) : ∀ l : List Nat, isIn b l = true ↔ b ∈ l
  | [] => by simp [isIn]
  | a :: r => by
    simp only [isIn, List.mem_cons]
    by_cases h : a = b
    · subst h; simp
    · simp only [beq_ne h, cond_false, isIn_iff b r]
      exact ⟨.inr, fun h' => h'.resolve_left (fun e => h e.symm)⟩

omit [Syms] in
theorem isIn_false (b : Nat) (l : List Nat) : isIn b l = false ↔ b ∉ l := by
  rw [← isIn_iff]; simp

structure Ctx where
  X : Nat → Prop
  O : Nat → Prop
  w0 : World

/-- But for the rows O, all that was there is as it was. -/
structure Keep (O : Nat → Prop) (w w' : World) : Prop where
  os : w'.os = w.os
  tape : w'.tape = w.tape
  output : w'.output = w.output
  size : w.heap.size ≤ w'.heap.size
  block : ∀ β, β < w.heap.size → ¬ O β → w'.heap[β]? = w.heap[β]?

omit [Syms] in
theorem Keep.refl (O : Nat → Prop) (w : World) : Keep O w w := ⟨rfl, rfl, rfl, Nat.le_refl _, fun _ _ _ => rfl⟩

/-- The blocks that are an object's own. -/
def fp (o : AObj) (L : Loc) (β : Nat) : Prop := L.blk = β ∨ ∃ xs lo i S, o = .deep xs lo ∧ lo ≤ i ∧ i < xs.length ∧ L.subs i = some S ∧ S.blk = β

omit [Syms] in
theorem fp_blk (o : AObj) (L : Loc) : fp o L L.blk := .inl rfl

/-- No row whose elements' rows are one's own. -/
def Flat (o : AObj) : Prop := ∀ xs lo, o ≠ .deep xs lo

omit [Syms] in
theorem Flat.fp {o : AObj} (h : Flat o) {L : Loc} {β : Nat} (hf : fp o L β) : L.blk = β := by
  rcases hf with h1 | ⟨xs, lo, _, _, h1, _⟩
  · exact h1
  · exact absurd h1 (h xs lo)

omit [Syms] in
theorem flat_cells (cs : List AV) : Flat (.cells cs) := fun _ _ h => by cases h
omit [Syms] in
theorem flat_arr (s : Nat) (xs : List AV) : Flat (.arr s xs) := fun _ _ h => by cases h
omit [Syms] in
theorem flat_tarr (t : GT) (xs : List t.T) : Flat (.tarr t xs) := fun _ _ h => by cases h
omit [Syms] in
theorem flat_map (es : List (AV × AV)) : Flat (.map es) := fun _ _ h => by cases h

/-- A row that no variable of the machine's own may change. -/
def okB (X : Nat → Prop) (m : Map) (H : Heap) (F : List Nat) (β : Nat) : Prop :=
  ¬ X β ∧ ∀ b o L, hget H b = some o → b ∉ F → m b = some L → ¬ fp o L β

omit [Syms] in
theorem okB.ne {X : Nat → Prop} {m : Map} {H : Heap} {F : List Nat} {β : Nat} (h : okB X m H F β) {b : Nat} {o : AObj} {L : Loc} (h1 : hget H b = some o) (h2 : b ∉ F) (h3 : m b = some L) : L.blk ≠ β := fun e => h.2 b o L h1 h2 h3 (.inl e)

/-- No cell is frozen; only a row of single cells may bear a mark behind its last one. -/
def NoFz (s : Nat) (C : Array Value) (z : Nat × Nat) : Prop := z.1 = z.2 ∨ (s = 1 ∧ C.size ≤ z.1)

def ArrR (ok : Nat → Prop) (h : Array Obj) (m : Map) (L : Loc) (s : Nat) (xs : List AV) : Prop :=
  L.sz = s ∧ 0 < s ∧ L.ext = xs.length ∧ (∀ x ∈ xs, x.cells.length = s) ∧
      ∃ C e z, h[L.blk]? = some (.cells C e z) ∧ C.size = L.csz ∧ NoFz s C z ∧ L.off + xs.length * s ≤ C.size ∧ CR ok h m (flat xs) C L.off

/-- A row within a row. -/
def SubR (h : Array Obj) (d : List UInt8) (v : Value) : Option Sub → Prop
  | none => d = [] ∧ ∃ a, v = .slice a 0 0
  | some S => (∃ c, v = .slice (some ⟨S.blk, S.off, none⟩) d.length c ∧ S.ext ≤ c ∧ S.off + c ≤ S.csz) ∧ S.ext = d.length ∧
      ∃ C e z, h[S.blk]? = some (.cells C e z) ∧ C.size = S.csz ∧ NoFz 1 C z ∧ S.off + d.length ≤ C.size ∧ ∀ (j : Nat) (b : UInt8), d[j]? = some b → C[S.off + j]? = some (.int .u8 (b.toNat : Int))

/-- A row whose elements' rows are one's own, from an element on. -/
def DeepR (h : Array Obj) (L : Loc) (xs : List Blk) (lo : Nat) : Prop :=
  (L.sz = 2 ∧ L.ext = xs.length) ∧ (∃ C e z, h[L.blk]? = some (.cells C e z) ∧ C.size = L.csz ∧ NoFz 2 C z ∧ L.off + xs.length * 2 ≤ C.size ∧
      ∀ (i : Nat) (x : Blk), xs[i]? = some x → lo ≤ i → C[L.off + i * 2]? = some (.int .i64 x.pos) ∧ ∃ v, C[L.off + i * 2 + 1]? = some v ∧ SubR h x.data v (L.subs i)) ∧
    (∀ i S, lo ≤ i → i < xs.length → L.subs i = some S → S.blk ≠ L.blk) ∧ (∀ i j S S', lo ≤ i → lo ≤ j → i < xs.length → j < xs.length → L.subs i = some S → L.subs j = some S' → S.blk = S'.blk → i = j)

def ObjR (ok : Nat → Prop) (h : Array Obj) (m : Map) (L : Loc) : AObj → Prop
  | .deep xs lo => DeepR h L xs lo
  | .cells cs => L.off = 0 ∧ ∃ C e z, h[L.blk]? = some (.cells C e z) ∧ C.size = cs.length ∧ NoFz 0 C z ∧ CR ok h m cs C 0
  | .arr s xs => ArrR ok h m L s xs
  | .tarr t xs => ArrR ok h m L t.size (encs t xs)
  | .map es => ∃ (ents : Array MapEntry) (k : Nat), h[L.blk]? = some (.map ents k) ∧ ents.size = es.length ∧
      ∀ (j : Nat) (p : AV × AV), es[j]? = some p → ∃ q : MapEntry, ents[j]? = some q ∧ VR ok h m p.1 q.key ∧ VR ok h m p.2 q.val

/-- A row that may be none. -/
def Void (o : AObj) : Prop := (∃ t, o = .tarr t []) ∨ (∃ s, o = .arr s []) ∨ ∃ lo, o = .deep [] lo

structure SR (c : Ctx) (m : Map) (H : Heap) (F : List Nat) (w : World) : Prop where
  xlt : ∀ β, c.X β → β < c.w0.heap.size
  all : ∀ b o, hget H b = some o → (∃ L, m b = some L ∧ ObjR (okB c.X m H F) w.heap m L o) ∨ (m b = none ∧ Void o)
  injf : ∀ b o b' o' L L' β, hget H b = some o → hget H b' = some o' → m b = some L → m b' = some L' → fp o L β → fp o' L' β → b = b'
  noxf : ∀ b o L β, hget H b = some o → m b = some L → fp o L β → ¬ c.X β
  ownf : ∀ b o L β, hget H b = some o → m b = some L → fp o L β → c.O β ∨ c.w0.heap.size ≤ β
  keep : Keep c.O c.w0 w

theorem SR.inj {c : Ctx} {m : Map} {H : Heap} {F : List Nat} {w : World} (hs : SR c m H F w) : ∀ b o b' o' L L', hget H b = some o → hget H b' = some o' → m b = some L → m b' = some L' → L.blk = L'.blk → b = b' :=
  fun b o b' o' L L' h1 h2 h3 h4 h5 => hs.injf b o b' o' L L' _ h1 h2 h3 h4 (.inl rfl) (.inl h5.symm)
theorem SR.nox {c : Ctx} {m : Map} {H : Heap} {F : List Nat} {w : World} (hs : SR c m H F w) : ∀ b o L, hget H b = some o → m b = some L → ¬ c.X L.blk := fun b o L h1 h2 => hs.noxf b o L _ h1 h2 (.inl rfl)
theorem SR.own {c : Ctx} {m : Map} {H : Heap} {F : List Nat} {w : World} (hs : SR c m H F w) : ∀ b o L, hget H b = some o → m b = some L → c.O L.blk ∨ c.w0.heap.size ≤ L.blk := fun b o L h1 h2 => hs.ownf b o L _ h1 h2 (.inl rfl)

theorem SR.objm {c : Ctx} {m : Map} {H : Heap} {F : List Nat} {w : World} (hs : SR c m H F w) {b : Nat} {o : AObj} {L : Loc} (hb : hget H b = some o) (hm : m b = some L) : ObjR (okB c.X m H F) w.heap m L o := by
  rcases hs.all b o hb with ⟨L', h1, h2⟩ | ⟨h1, _⟩
  · rw [hm] at h1; cases h1; exact h2
  · rw [hm] at h1; cases h1

/-- No row that may be none. -/
def Solid (o : AObj) : Prop := ¬ Void o

omit [Syms] in
theorem solid_cells (cs : List AV) : Solid (.cells cs) := fun h => by rcases h with ⟨_, h⟩ | ⟨_, h⟩ | ⟨_, h⟩ <;> cases h
omit [Syms] in
theorem solid_map (es : List (AV × AV)) : Solid (.map es) := fun h => by rcases h with ⟨_, h⟩ | ⟨_, h⟩ | ⟨_, h⟩ <;> cases h

theorem SR.obj {c : Ctx} {m : Map} {H : Heap} {F : List Nat} {w : World} (hs : SR c m H F w) (b : Nat) (o : AObj) (hb : hget H b = some o) (ho : Solid o := by first | exact solid_cells _ | exact solid_map _) : ∃ L, m b = some L ∧ ObjR (okB c.X m H F) w.heap m L o := by
  rcases hs.all b o hb with h | ⟨_, h2⟩
  · exact h
  · exact absurd h2 ho

theorem ObjR.there {ok : Nat → Prop} {h : Array Obj} {m : Map} {L : Loc} {o : AObj} (H : ObjR ok h m L o) : ∃ x, h[L.blk]? = some x := by
  cases o with
  | cells cs => obtain ⟨_, C, e, z, h1, _⟩ := H; exact ⟨_, h1⟩
  | arr s xs => obtain ⟨_, _, _, _, C, e, z, h1, _⟩ := H; exact ⟨_, h1⟩
  | tarr t xs => obtain ⟨_, _, _, _, C, e, z, h1, _⟩ := H; exact ⟨_, h1⟩
  | map es => obtain ⟨e, k, h1, _⟩ := H; exact ⟨_, h1⟩
  | deep xs lo => obtain ⟨_, ⟨C, e, z, h1, _⟩, _⟩ := H; exact ⟨_, h1⟩

theorem SubR.there {h : Array Obj} {d : List UInt8} {v : Value} {S : Sub} (H : SubR h d v (some S)) : ∃ x, h[S.blk]? = some x := by
  obtain ⟨_, _, C, e, z, h1, _⟩ := H
  exact ⟨_, h1⟩

theorem ObjR.fpthere {ok : Nat → Prop} {h : Array Obj} {m : Map} {L : Loc} {o : AObj} (H : ObjR ok h m L o) {β : Nat} (hf : fp o L β) : ∃ x, h[β]? = some x := by
  rcases hf with rfl | ⟨xs, lo, i, S, rfl, h1, h2, h3, rfl⟩
  · exact H.there
  · obtain ⟨_, ⟨C, e, z, _, _, _, _, h4⟩, _⟩ := H
    obtain ⟨_, v, _, h5⟩ := h4 i xs[i] (List.getElem?_eq_getElem h2) h1
    rw [h3] at h5
    exact h5.there

omit [Syms] in
theorem lt_of_some {h : Array Obj} {i : Nat} {x : Obj} (H : h[i]? = some x) : i < h.size := by
  rcases Nat.lt_or_ge i h.size with hi | hi
  · exact hi
  · simp [Array.getElem?_eq_none hi] at H

theorem ObjR.lt {ok : Nat → Prop} {h : Array Obj} {m : Map} {L : Loc} {o : AObj} (H : ObjR ok h m L o) : L.blk < h.size := by
  obtain ⟨x, hx⟩ := H.there; exact lt_of_some hx

theorem ObjR.fplt {ok : Nat → Prop} {h : Array Obj} {m : Map} {L : Loc} {o : AObj} (H : ObjR ok h m L o) {β : Nat} (hf : fp o L β) : β < h.size := by
  obtain ⟨x, hx⟩ := H.fpthere hf; exact lt_of_some hx

theorem SR.fplt {c : Ctx} {m : Map} {H : Heap} {F : List Nat} {w : World} (hs : SR c m H F w) {b : Nat} {o : AObj} {L : Loc} (hb : hget H b = some o) (hm : m b = some L) {β : Nat} (hf : fp o L β) : β < w.heap.size := (hs.objm hb hm).fplt hf

theorem SR.blt {c : Ctx} {m : Map} {H : Heap} {F : List Nat} {w : World} (hs : SR c m H F w) {b : Nat} {o : AObj} {L : Loc} (hb : hget H b = some o) (hm : m b = some L) : L.blk < w.heap.size := by
  exact (hs.objm hb hm).lt

/-- An object told at a row that stays is told still. -/
theorem ObjR.mono {ok ok' : Nat → Prop} {h h' : Array Obj} {m m' : Map} {L : Loc} {o : AObj} (H : ObjR ok h m L o)
    (hk : ∀ β C e z, ok β → h[β]? = some (.cells C e z) → ok' β ∧ h'[β]? = some (.cells C e z)) (hm : MLe m m') (hbf : ∀ β, fp o L β → h'[β]? = h[β]?) : ObjR ok' h' m' L o := by
  have hb := hbf L.blk (.inl rfl)
  cases o with
  | deep xs lo =>
    obtain ⟨a, ⟨C, e, z, h1, h2, h3, h4, h5⟩, h6, h7⟩ := H
    refine ⟨a, ⟨C, e, z, by rw [hb]; exact h1, h2, h3, h4, fun i x hx hi => ?_⟩, h6, h7⟩
    obtain ⟨k1, v, k2, k3⟩ := h5 i x hx hi
    refine ⟨k1, v, k2, ?_⟩
    have hil := (List.getElem?_eq_some_iff.1 hx).1
    cases hS : L.subs i with
    | none => rw [hS] at k3; exact k3
    | some S =>
      rw [hS] at k3
      obtain ⟨q1, q2, C', e', z', q3, q4⟩ := k3
      exact ⟨q1, q2, C', e', z', by rw [hbf S.blk (.inr ⟨xs, lo, i, S, rfl, hi, hil, hS, rfl⟩)]; exact q3, q4⟩
  | cells cs =>
    obtain ⟨h0, C, e, z, h1, h2, h3, h4⟩ := H
    exact ⟨h0, C, e, z, by rw [hb]; exact h1, h2, h3, h4.mono hk hm⟩
  | arr s xs =>
    obtain ⟨a, b, c, d, C, e, z, h1, h2, h3, h4, h5⟩ := H
    exact ⟨a, b, c, d, C, e, z, by rw [hb]; exact h1, h2, h3, h4, h5.mono hk hm⟩
  | tarr t xs =>
    obtain ⟨a, b, c, d, C, e, z, h1, h2, h3, h4, h5⟩ := H
    exact ⟨a, b, c, d, C, e, z, by rw [hb]; exact h1, h2, h3, h4, h5.mono hk hm⟩
  | map es =>
    obtain ⟨ents, k, h1, h2, h3⟩ := H
    refine ⟨ents, k, by rw [hb]; exact h1, h2, fun j p hp => ?_⟩
    obtain ⟨q, hq, ha, hv⟩ := h3 j p hp
    exact ⟨q, hq, ha.mono hk hm, hv.mono hk hm⟩

/-- From one state to a later one: what was told by rows that stay is told still. -/
structure Ext (c : Ctx) (m : Map) (H : Heap) (F : List Nat) (w : World) (m' : Map) (H' : Heap) (F' : List Nat) (w' : World) : Prop where
  mm : MLe m m'
  kk : ∀ β C e z, okB c.X m H F β → w.heap[β]? = some (.cells C e z) → okB c.X m' H' F' β ∧ w'.heap[β]? = some (.cells C e z)

omit [Syms] in
theorem Ext.refl (c : Ctx) (m : Map) (H : Heap) (F : List Nat) (w : World) : Ext c m H F w m H F w := ⟨MLe.refl _, fun _ _ _ _ h k => ⟨h, k⟩⟩

omit [Syms] in
theorem Ext.trans {c : Ctx} {m m1 m2 : Map} {H H1 H2 : Heap} {F F1 F2 : List Nat} {w w1 w2 : World} (h : Ext c m H F w m1 H1 F1 w1) (k : Ext c m1 H1 F1 w1 m2 H2 F2 w2) :
    Ext c m H F w m2 H2 F2 w2 :=
  ⟨h.mm.trans k.mm, fun β C e z ho hh => let ⟨a, b⟩ := h.kk β C e z ho hh; k.kk β C e z a b⟩

theorem Ext.vr {c : Ctx} {m m' : Map} {H H' : Heap} {F F' : List Nat} {w w' : World} (h : Ext c m H F w m' H' F' w') {a : AV} {v : Value} (hr : VR (okB c.X m H F) w.heap m a v) :
    VR (okB c.X m' H' F') w'.heap m' a v := hr.mono h.kk h.mm

def upd (m : Map) (b : Nat) (L : Loc) : Map := fun x => if x = b then some L else m x

omit [Syms] in
theorem upd_same (m : Map) (b : Nat) (L : Loc) : upd m b L b = some L := by simp [upd]
omit [Syms] in
theorem upd_ne (m : Map) {b x : Nat} (L : Loc) (h : x ≠ b) : upd m b L x = m x := by simp [upd, h]
omit [Syms] in
theorem upd_le {m : Map} {b : Nat} (L : Loc) (h : m b = none) : MLe m (upd m b L) := by
  intro x L' hx
  have : x ≠ b := fun e => by rw [e, h] at hx; cases hx
  rw [upd_ne m L this, hx]

section
variable {c : Ctx} {m : Map} {H : Heap} {F : List Nat} {w : World}

/-- The world but for its rows of memory. -/
structure Alike (w w' : World) : Prop where
  os : w'.os = w.os
  tape : w'.tape = w.tape
  output : w'.output = w.output

/-- A new number for a new row. -/
theorem SR.new (hs : SR c m H F w) {id : Nat} (hid : m id = none) {w' : World} (ha : Alike w w') (hsz : w'.heap.size = w.heap.size + 1)
    (hold : ∀ β, β < w.heap.size → w'.heap[β]? = w.heap[β]?) {L : Loc} (hL : L.blk = w.heap.size) {o : AObj} (hfo : Flat o := by first | exact flat_cells _ | exact flat_arr _ _ | exact flat_tarr _ _ | exact flat_map _ | assumption) :
    Ext c m H F w (upd m id L) (hset H id o) F w' ∧
    (ObjR (okB c.X (upd m id L) (hset H id o) F) w'.heap (upd m id L) L o → SR c (upd m id L) (hset H id o) F w') := by
  have hx : Ext c m H F w (upd m id L) (hset H id o) F w' := by
    refine ⟨upd_le L hid, fun β C e z ho hh => ⟨⟨ho.1, fun b o' L' hb hf hm => ?_⟩, by rw [hold β (lt_of_some hh)]; exact hh⟩⟩
    rw [hget_hset] at hb
    by_cases e1 : id = b
    · subst e1
      rw [if_pos rfl] at hb; cases hb
      rw [upd_same] at hm; cases hm
      intro hfp
      have e := hfo.fp hfp
      rw [hL] at e
      exact Nat.ne_of_gt (lt_of_some hh) e
    · rw [if_neg e1] at hb
      rw [upd_ne m L (fun e => e1 e.symm)] at hm
      exact ho.2 b o' L' hb hf hm
  refine ⟨hx, fun hobj => ⟨hs.xlt, fun b o' hb => ?_, fun b o1 b' o2 L1 L2 β h1 h2 h3 h4 h5 h6 => ?_, fun b o' L' β hb hm hfp => ?_, fun b o' L' β hb hm hfp => ?_, ?_⟩⟩
  · rw [hget_hset] at hb
    by_cases e1 : id = b
    · subst e1
      rw [if_pos rfl] at hb; cases hb
      exact .inl ⟨L, upd_same _ _ _, hobj⟩
    · rw [if_neg e1] at hb
      rcases hs.all b o' hb with ⟨L', h1, h2⟩ | ⟨h1, h2⟩
      · exact .inl ⟨L', by rw [upd_ne m L (fun e => e1 e.symm)]; exact h1, ObjR.mono h2 hx.kk hx.mm (fun β hβ => hold β (ObjR.fplt h2 hβ))⟩
      · exact .inr ⟨by rw [upd_ne m L (fun e => e1 e.symm)]; exact h1, h2⟩
  · rw [hget_hset] at h1 h2
    by_cases e1 : id = b
    · by_cases e2 : id = b'
      · exact e1.symm.trans e2
      · rw [if_neg e2] at h2
        subst e1
        rw [if_pos rfl] at h1; cases h1
        rw [upd_same] at h3; cases h3
        rw [upd_ne m L (fun e => e2 e.symm)] at h4
        have := hs.fplt h2 h4 h6
        have := hfo.fp h5
        omega
    · rw [if_neg e1] at h1
      rw [upd_ne m L (fun e => e1 e.symm)] at h3
      by_cases e2 : id = b'
      · subst e2
        rw [if_pos rfl] at h2; cases h2
        rw [upd_same] at h4; cases h4
        have := hs.fplt h1 h3 h5
        have := hfo.fp h6
        omega
      · rw [if_neg e2] at h2
        rw [upd_ne m L (fun e => e2 e.symm)] at h4
        exact hs.injf b o1 b' o2 L1 L2 β h1 h2 h3 h4 h5 h6
  · rw [hget_hset] at hb
    by_cases e1 : id = b
    · subst e1
      rw [if_pos rfl] at hb; cases hb
      rw [upd_same] at hm; cases hm
      intro hX
      have := hs.xlt _ hX
      have := hs.keep.size
      have := hfo.fp hfp
      omega
    · rw [if_neg e1] at hb
      rw [upd_ne m L (fun e => e1 e.symm)] at hm
      exact hs.noxf b o' L' β hb hm hfp
  · rw [hget_hset] at hb
    by_cases e1 : id = b
    · subst e1
      rw [if_pos rfl] at hb; cases hb
      rw [upd_same] at hm; cases hm
      right; rw [← hfo.fp hfp, hL]; exact hs.keep.size
    · rw [if_neg e1] at hb
      rw [upd_ne m L (fun e => e1 e.symm)] at hm
      exact hs.ownf b o' L' β hb hm hfp
  · have hk := hs.keep
    exact ⟨ha.os.trans hk.os, ha.tape.trans hk.tape, ha.output.trans hk.output, by have := hk.size; omega, fun β hb ho => by
      rw [hold β (by have := hk.size; omega)]; exact hk.block β hb ho⟩

/-- What is one's own is written. -/
theorem SR.writeG (hs : SR c m H F w) {b : Nat} {o o' : AObj} (hb : hget H b = some o) (hf : b ∉ F) {L : Loc} (hm : m b = some L) {w' : World} (ha : Alike w w') (hsz : w'.heap.size = w.heap.size)
    (hold : ∀ β, ¬ fp o L β → w'.heap[β]? = w.heap[β]?) (hfo : ∀ β, fp o' L β → fp o L β) :
    Ext c m H F w m (hset H b o') F w' ∧ (ObjR (okB c.X m (hset H b o') F) w'.heap m L o' → SR c m (hset H b o') F w') := by
  have hx : Ext c m H F w m (hset H b o') F w' := by
    refine ⟨MLe.refl m, fun β C e z ho hh => ⟨⟨ho.1, fun b1 o1 L1 hb1 hf1 hm1 => ?_⟩, by rw [hold β (ho.2 b o L hb hf hm)]; exact hh⟩⟩
    rw [hget_hset] at hb1
    by_cases e1 : b = b1
    · subst e1; rw [if_pos rfl] at hb1; cases hb1; rw [hm] at hm1; cases hm1; exact fun h => ho.2 b o L hb hf hm (hfo β h)
    · rw [if_neg e1] at hb1; exact ho.2 b1 o1 L1 hb1 hf1 hm1
  have back : ∀ {x : Nat} {y : AObj} {L1 : Loc} {β : Nat}, hget (hset H b o') x = some y → m x = some L1 → fp y L1 β → ∃ y', hget H x = some y' ∧ fp y' L1 β := by
    intro x y L1 β hy hx1 hfp
    rw [hget_hset] at hy
    by_cases e1 : b = x
    · subst e1
      rw [if_pos rfl] at hy; cases hy
      rw [hm] at hx1; cases hx1
      exact ⟨o, hb, hfo β hfp⟩
    · rw [if_neg e1] at hy; exact ⟨y, hy, hfp⟩
  refine ⟨hx, fun hobj => ⟨hs.xlt, fun b1 o1 hb1 => ?_, fun b1 o1 b2 o2 L1 L2 β h1 h2 h3 h4 h5 h6 => ?_, fun b1 o1 L1 β hb1 hm1 hfp => ?_, fun b1 o1 L1 β hb1 hm1 hfp => ?_, ?_⟩⟩
  · have hb1' := hb1
    rw [hget_hset] at hb1
    by_cases e1 : b = b1
    · subst e1
      rw [if_pos rfl] at hb1; cases hb1
      exact .inl ⟨L, hm, hobj⟩
    · rw [if_neg e1] at hb1
      rcases hs.all b1 o1 hb1 with ⟨L', h1, h2⟩ | h1
      · refine .inl ⟨L', h1, ObjR.mono h2 hx.kk hx.mm (fun β hβ => hold β fun h => e1 ?_)⟩
        exact hs.injf b o b1 o1 L L' β hb hb1 hm h1 h hβ
      · exact .inr h1
  · obtain ⟨y1, k1, k2⟩ := back h1 h3 h5
    obtain ⟨y2, k3, k4⟩ := back h2 h4 h6
    exact hs.injf b1 y1 b2 y2 L1 L2 β k1 k3 h3 h4 k2 k4
  · obtain ⟨y1, k1, k2⟩ := back hb1 hm1 hfp
    exact hs.noxf b1 y1 L1 β k1 hm1 k2
  · obtain ⟨y1, k1, k2⟩ := back hb1 hm1 hfp
    exact hs.ownf b1 y1 L1 β k1 hm1 k2
  · have hk := hs.keep
    refine ⟨ha.os.trans hk.os, ha.tape.trans hk.tape, ha.output.trans hk.output, by have := hk.size; omega, fun β hb' ho => ?_⟩
    rw [hold β fun h => ?_]
    · exact hk.block β hb' ho
    · rcases hs.ownf b o L β hb hm h with h | h
      · exact ho h
      · omega

/-- A row that is one's own is written. -/
theorem SR.write (hs : SR c m H F w) {b : Nat} {o o' : AObj} (hb : hget H b = some o) (hf : b ∉ F) {L : Loc} (hm : m b = some L) {w' : World} (ha : Alike w w') (hsz : w'.heap.size = w.heap.size)
    (hold : ∀ β, β ≠ L.blk → w'.heap[β]? = w.heap[β]?) (hfo : ∀ β, fp o' L β → fp o L β := by exact fun β h => .inl ((by first | exact flat_cells _ | exact flat_arr _ _ | exact flat_tarr _ _ | exact flat_map _ | assumption : Flat _).fp h)) :
    Ext c m H F w m (hset H b o') F w' ∧ (ObjR (okB c.X m (hset H b o') F) w'.heap m L o' → SR c m (hset H b o') F w') :=
  hs.writeG hb hf hm ha hsz (fun β h => hold β fun e => h (.inl e.symm)) hfo

/-- A number is given up. -/
theorem SR.del (hs : SR c m H F w) (b : Nat) : Ext c m H F w m (hdel H b) F w ∧ SR c m (hdel H b) F w := by
  have back : ∀ {x : Nat} {y : AObj}, hget (hdel H b) x = some y → hget H x = some y := by
    intro x y hy
    rw [hget_hdel] at hy
    by_cases e1 : b = x
    · rw [if_pos e1] at hy; cases hy
    · rw [if_neg e1] at hy; exact hy
  have hx : Ext c m H F w m (hdel H b) F w :=
    ⟨MLe.refl m, fun β C e z ho hh => ⟨⟨ho.1, fun b1 o1 L1 hb1 hf1 hm1 => ho.2 b1 o1 L1 (back hb1) hf1 hm1⟩, hh⟩⟩
  exact ⟨hx, hs.xlt, fun b1 o1 hb1 => (hs.all b1 o1 (back hb1)).imp (fun ⟨L, h1, h2⟩ => ⟨L, h1, ObjR.mono h2 hx.kk hx.mm (fun _ _ => rfl)⟩) id,
    fun b1 o1 b2 o2 L1 L2 β h1 h2 h3 h4 h5 h6 => hs.injf b1 o1 b2 o2 L1 L2 β (back h1) (back h2) h3 h4 h5 h6,
    fun b1 o1 L1 β h1 h2 h3 => hs.noxf b1 o1 L1 β (back h1) h2 h3, fun b1 o1 L1 β h1 h2 h3 => hs.ownf b1 o1 L1 β (back h1) h2 h3, hs.keep⟩

/-- A row of data that may be none is told under a new number. -/
theorem SR.void (hs : SR c m H F w) {id : Nat} (hid : m id = none) (t : GT) : Ext c m H F w m (hset H id (.tarr t [])) F w ∧ SR c m (hset H id (.tarr t [])) F w := by
  have back : ∀ {x : Nat} {y : AObj} {L : Loc}, hget (hset H id (.tarr t [])) x = some y → m x = some L → hget H x = some y := by
    intro x y L hy hx
    rw [hget_hset] at hy
    by_cases e1 : id = x
    · subst e1; rw [hid] at hx; cases hx
    · rw [if_neg e1] at hy; exact hy
  have hx : Ext c m H F w m (hset H id (.tarr t [])) F w :=
    ⟨MLe.refl m, fun β C e z ho hh => ⟨⟨ho.1, fun b1 o1 L1 hb1 hf1 hm1 => ho.2 b1 o1 L1 (back hb1 hm1) hf1 hm1⟩, hh⟩⟩
  refine ⟨hx, hs.xlt, fun b1 o1 hb1 => ?_, fun b1 o1 b2 o2 L1 L2 β h1 h2 h3 h4 h5 h6 => hs.injf b1 o1 b2 o2 L1 L2 β (back h1 h3) (back h2 h4) h3 h4 h5 h6,
    fun b1 o1 L1 β h1 h2 h3 => hs.noxf b1 o1 L1 β (back h1 h2) h2 h3, fun b1 o1 L1 β h1 h2 h3 => hs.ownf b1 o1 L1 β (back h1 h2) h2 h3, hs.keep⟩
  rw [hget_hset] at hb1
  by_cases e1 : id = b1
  · subst e1
    rw [if_pos rfl] at hb1; cases hb1
    exact .inr ⟨hid, .inl ⟨t, rfl⟩⟩
  · rw [if_neg e1] at hb1
    exact (hs.all b1 o1 hb1).imp (fun ⟨L, h1, h2⟩ => ⟨L, h1, ObjR.mono h2 hx.kk hx.mm (fun _ _ => rfl)⟩) (fun h => h)

/-- A row is told under a new number, and no more under the old one. -/
theorem SR.rename (hs : SR c m H F w) {b id : Nat} {o : AObj} {L : Loc} (hb : hget H b = some o) (hf : b ∉ F) (hm : m b = some L) (hid : m id = none) :
    Ext c m H F w (upd m id L) (hset (hdel H b) id o) F w ∧ SR c (upd m id L) (hset (hdel H b) id o) F w := by
  have hne : id ≠ b := fun e => by rw [e, hm] at hid; cases hid
  have back : ∀ {x : Nat} {y : AObj} {L1 : Loc}, hget (hset (hdel H b) id o) x = some y → upd m id L x = some L1 → ∃ x', hget H x' = some y ∧ m x' = some L1 ∧ (x = id → x' = b) ∧ (x ≠ id → x' = x) ∧ x' ≠ id := by
    intro x y L1 hy hx
    rw [hget_hset] at hy
    by_cases e1 : id = x
    · subst e1
      rw [if_pos rfl] at hy; cases hy
      rw [upd_same] at hx; cases hx
      exact ⟨b, hb, hm, fun _ => rfl, fun h => absurd rfl h, fun e => hne e.symm⟩
    · rw [if_neg e1, hget_hdel] at hy
      rw [upd_ne m L (fun e => e1 e.symm)] at hx
      by_cases e2 : b = x
      · rw [if_pos e2] at hy; cases hy
      · rw [if_neg e2] at hy
        exact ⟨x, hy, hx, fun e => absurd e.symm e1, fun _ => rfl, fun e => e1 e.symm⟩
  have hx : Ext c m H F w (upd m id L) (hset (hdel H b) id o) F w := by
    refine ⟨upd_le L hid, fun β C e z ho hh => ⟨⟨ho.1, fun b1 o1 L1 hb1 hf1 hm1 => ?_⟩, hh⟩⟩
    obtain ⟨x', k1, k2, k3, k4, _⟩ := back hb1 hm1
    by_cases e : b1 = id
    · rw [k3 e] at k1 k2; exact ho.2 b o1 L1 k1 hf k2
    · rw [k4 e] at k1 k2; exact ho.2 b1 o1 L1 k1 hf1 k2
  refine ⟨hx, hs.xlt, fun b1 o1 hb1 => ?_, fun b1 o1 b2 o2 L1 L2 β h1 h2 h3 h4 h5 h6 => ?_,
    fun b1 o1 L1 β h1 h2 h6 => ?_, fun b1 o1 L1 β h1 h2 h6 => ?_, hs.keep⟩
  · rw [hget_hset] at hb1
    by_cases e1 : id = b1
    · subst e1
      rw [if_pos rfl] at hb1; cases hb1
      exact .inl ⟨L, upd_same _ _ _, ObjR.mono (hs.objm hb hm) hx.kk hx.mm (fun _ _ => rfl)⟩
    · rw [if_neg e1, hget_hdel] at hb1
      by_cases e2 : b = b1
      · rw [if_pos e2] at hb1; cases hb1
      · rw [if_neg e2] at hb1
        rw [upd_ne m L (fun e => e1 e.symm)]
        exact (hs.all b1 o1 hb1).imp (fun ⟨L, h1, h2⟩ => ⟨L, h1, ObjR.mono h2 hx.kk hx.mm (fun _ _ => rfl)⟩) (fun h => h)
  · obtain ⟨x1, k1, k2, k3, k4, _⟩ := back h1 h3
    obtain ⟨x2, q1, q2, q3, q4, _⟩ := back h2 h4
    have e := hs.injf x1 o1 x2 o2 L1 L2 β k1 q1 k2 q2 h5 h6
    have gone : ∀ {x : Nat} {y : AObj}, hget (hset (hdel H b) id o) x = some y → x ≠ id → x ≠ b := fun {x y} hy hx0 e0 => by
      rw [hget_hset, if_neg (fun e => hx0 e.symm), hget_hdel, if_pos e0.symm] at hy; cases hy
    by_cases e1 : b1 = id
    · by_cases e2 : b2 = id
      · rw [e1, e2]
      · rw [k3 e1, q4 e2] at e
        exact absurd e.symm (gone h2 e2)
    · by_cases e2 : b2 = id
      · rw [k4 e1, q3 e2] at e
        exact absurd e (gone h1 e1)
      · rw [k4 e1, q4 e2] at e; exact e
  · obtain ⟨x1, k1, k2, _⟩ := back h1 h2
    exact hs.noxf x1 o1 L1 β k1 k2 h6
  · obtain ⟨x1, k1, k2, _⟩ := back h1 h2
    exact hs.ownf x1 o1 L1 β k1 k2 h6

/-- Numbers are written no more. -/
theorem SR.freeze (hs : SR c m H F w) (is : List Nat) : Ext c m H F w m H (is ++ F) w ∧ SR c m H (is ++ F) w := by
  have hx : Ext c m H F w m H (is ++ F) w :=
    ⟨MLe.refl m, fun β C e z ho hh => ⟨⟨ho.1, fun b1 o1 L1 hb1 hf1 hm1 => ho.2 b1 o1 L1 hb1 (fun h => hf1 (List.mem_append.2 (.inr h))) hm1⟩, hh⟩⟩
  exact ⟨hx, hs.xlt, fun b1 o1 hb1 => (hs.all b1 o1 hb1).imp (fun ⟨L, h1, h2⟩ => ⟨L, h1, ObjR.mono h2 hx.kk hx.mm (fun _ _ => rfl)⟩) id, hs.injf, hs.noxf, hs.ownf, hs.keep⟩

/-- Nothing but the streams' counts has turned. -/
theorem SR.still (hs : SR c m H F w) {w' : World} (ha : Alike w w') (hh : w'.heap = w.heap) : Ext c m H F w m H F w' ∧ SR c m H F w' := by
  have hx : Ext c m H F w m H F w' := ⟨MLe.refl m, fun β C e z ho hk => ⟨ho, by rw [hh]; exact hk⟩⟩
  exact ⟨hx, hs.xlt, fun b1 o1 hb1 => (hs.all b1 o1 hb1).imp (fun ⟨L, h1, h2⟩ => ⟨L, h1, ObjR.mono h2 hx.kk hx.mm (fun _ _ => by rw [hh])⟩) id, hs.injf, hs.noxf, hs.ownf,
    ⟨ha.os.trans hs.keep.os, ha.tape.trans hs.keep.tape, ha.output.trans hs.keep.output, by rw [hh]; exact hs.keep.size, fun β h1 h2 => by rw [hh]; exact hs.keep.block β h1 h2⟩⟩

end
end Go.Proofs.Ytmkmjjodiicmlaa.VS

/- Each operation that leaves the heap alone: the model's answer is the abstract machine's. Conditions: none. -/
namespace Go.Proofs.Ytmkmjjodiicmlaa.VS
variable [Syms]

omit [Syms] in
theorem cell_of {w : World} {β : Nat} {C : Array Value} {e : TypeId} {z : Nat × Nat} (h : w.heap[β]? = some (.cells C e z)) (j : Nat) : w.cell? ⟨β, j, none⟩ = C[j]? := by
  simp [World.cell?, h]

omit [Syms] in
theorem frozen_of {w : World} {β : Nat} {C : Array Value} {e : TypeId} {z : Nat × Nat} (h : w.heap[β]? = some (.cells C e z)) {s : Nat} (hz : NoFz s C z) {j : Nat} (hj : j < C.size) : w.frozen? ⟨β, j, none⟩ = false := by
  have : ¬ (z.1 ≤ j ∧ j < z.2) := by rcases hz with h | h <;> omega
  simp only [World.frozen?, h]
  simp only [Bool.and_eq_false_iff, decide_eq_false_iff_not]
  omega

omit [Syms] in
theorem add_none (β o n : Nat) : (⟨β, o, none⟩ : Addr).add n = ⟨β, o + n, none⟩ := by unfold Addr.add; split <;> simp_all

/-- The tables tell what the program's own say. -/
def TyOK (P : Program) (T : Tabs) : Prop :=
  ∀ t i, T.ty.get t = some i → ∃ (j : TypeInfo) (d : TypeDesc), P.info? t = some j ∧ P.underlying t = some d ∧ i.size = j.size ∧ i.bytes = j.bytes ∧ i.zero = zeroV j.zero ∧ i.ag = isAggD d ∧ i.k = tkOf d ∧
    (i.cmp = true → P.eqGuardType P.depth t = false ∧ P.stoodInHeld t = false)

section types
variable {P : Program} {T : Tabs} (hT : TyOK P T)
include hT

omit [Syms] in
theorem szOf_some {t : TypeId} {n : Nat} (h : szOf T t = some n) : ∃ i, P.info? t = some i ∧ i.size = n := by
  unfold szOf at h
  split at h
  · rename_i i hi
    obtain ⟨j, d, h1, h2, h3, _⟩ := hT t i hi
    exact ⟨j, h1, by rw [← h3]; simpa using h⟩
  · cases h

omit [Syms] in
theorem bytesOf_some {t : TypeId} {n : Nat} (h : bytesOf T t = some n) : ∃ i, P.info? t = some i ∧ i.bytes = n := by
  unfold bytesOf at h
  split at h
  · rename_i i hi
    obtain ⟨j, d, h1, h2, _, h3, _⟩ := hT t i hi
    exact ⟨j, h1, by rw [← h3]; simpa using h⟩
  · cases h

omit [Syms] in
theorem zeroOf_some {t : TypeId} {a : AV} (h : zeroOf T t = some a) : ∃ i v, P.info? t = some i ∧ i.zero = some v ∧ a = ofV v := by
  unfold zeroOf at h
  split at h
  · rename_i i hi
    obtain ⟨j, d, h1, h2, _, _, h3, _⟩ := hT t i hi
    rw [h3] at h
    cases hz : j.zero with
    | none => simp [hz, zeroV] at h
    | some v => simp [hz, zeroV] at h; exact ⟨j, v, h1, hz, h.symm⟩
  · cases h

omit [Syms] in
theorem kindOf_some {t : TypeId} {k : TK} (h : kindOf T t = k) (hk : k ≠ .other) : ∃ d, P.underlying t = some d ∧ tkOf d = k := by
  unfold kindOf at h
  split at h
  · rename_i i hi
    obtain ⟨j, d, h1, h2, _, _, _, _, h3, _⟩ := hT t i hi
    exact ⟨d, h2, by rw [← h3]; exact h⟩
  · exact absurd h.symm hk

omit [Syms] in
theorem kind_slice {t e : TypeId} (h : kindOf T t = .slice e) : P.underlying t = some (.slice e) := by
  obtain ⟨d, h1, h2⟩ := kindOf_some hT h (by simp)
  cases d <;> simp [tkOf] at h2
  rw [h1, h2]

omit [Syms] in
theorem kind_str {t : TypeId} (h : kindOf T t = .str) : P.underlying t = some .string := by
  obtain ⟨d, h1, h2⟩ := kindOf_some hT h (by simp)
  cases d <;> simp [tkOf] at h2
  rw [h1]

omit [Syms] in
theorem kind_int {t : TypeId} {k : IntKind} (h : kindOf T t = .int k) : P.underlying t = some (.int k) := by
  obtain ⟨d, h1, h2⟩ := kindOf_some hT h (by simp)
  cases d <;> simp [tkOf] at h2
  rw [h1, h2]

omit [Syms] in
theorem kind_bool {t : TypeId} (h : kindOf T t = .bool) : P.underlying t = some .bool := by
  obtain ⟨d, h1, h2⟩ := kindOf_some hT h (by simp)
  cases d <;> simp [tkOf] at h2
  rw [h1]

omit [Syms] in
theorem kind_array {t e : TypeId} {n : Nat} (h : kindOf T t = .array n e) : P.underlying t = some (.array n e) := by
  obtain ⟨d, h1, h2⟩ := kindOf_some hT h (by simp)
  cases d <;> simp [tkOf] at h2
  rw [h1, h2.1, h2.2]

omit [Syms] in
theorem kind_map {t k e : TypeId} (h : kindOf T t = .map k e) : P.underlying t = some (.map k e) := by
  obtain ⟨d, h1, h2⟩ := kindOf_some hT h (by simp)
  cases d <;> simp [tkOf] at h2
  rw [h1, h2.1, h2.2]

omit [Syms] in
theorem kind_struct {t : TypeId} {fs : List Fd} (h : kindOf T t = .struct fs) : ∃ fields : Array Field, P.underlying t = some (.struct fields) ∧ fs = fields.toList.map fdOf := by
  obtain ⟨d, h1, h2⟩ := kindOf_some hT h (by simp)
  cases d <;> simp [tkOf] at h2
  rename_i fields
  exact ⟨fields, h1, h2.symm⟩

omit [Syms] in
theorem elemOf_some {t e : TypeId} (h : elemOf T t = some e) : P.underlying t = some (.slice e) := by
  unfold elemOf at h
  split at h
  · rename_i e' he; simp at h; subst h; exact kind_slice hT he
  · cases h

omit [Syms] in
theorem fieldOf_some {t : TypeId} {f : Nat} {fd : Fd} (h : fieldOf T t f = some fd) : ∃ (fields : Array Field) (x : Field), P.underlying t = some (.struct fields) ∧ fields[f]? = some x ∧ fd = fdOf x := by
  unfold fieldOf at h
  split at h
  · rename_i fs hfs
    obtain ⟨fields, h1, h2⟩ := kind_struct hT hfs
    subst h2
    rw [List.getElem?_map, Array.getElem?_toList] at h
    cases hx : fields[f]? with
    | none => simp [hx] at h
    | some x => simp [hx] at h; exact ⟨fields, x, h1, hx, h.symm⟩
  · cases h

omit hT
omit [Syms] in
theorem run_isAgg' {t : TypeId} {d : TypeDesc} (h : P.underlying t = some d) (w : World) : (isAgg t).run P w = .ok (isAggD d) w := by
  unfold isAgg
  simp only [Sem.run_bind, run_underlying h, Result.andThen_ok]
  cases d <;> rfl

omit [Syms] in
theorem run_sizeOf' {t : TypeId} {i : TypeInfo} (h : P.info? t = some i) (w : World) : (sizeOf t).run P w = .ok i.size w := by
  simp [sizeOf, typeInfo, h]

end types

section
variable {P : Program} {T : Tabs} {ok : Nat → Prop} {m : Map} {w : World}

theorem ofV1_vr (v : Value) : VR ok w.heap m (ofV1 v) v := by
  unfold ofV1
  split
  · exact .bool _
  · exact .int _ _
  · exact .str _ _ rfl
  · exact .nilp
  · exact .nilf
  · exact .nili
  · exact .nils
  · exact .nilm
  · exact .dead

theorem ofV_vr (v : Value) : VR ok w.heap m (ofV v) v := by
  unfold ofV
  split
  · rename_i cs
    refine .agg' (by simp) fun j x hx => ?_
    simp only [List.getElem?_map, Array.getElem?_toList] at hx
    cases hc : cs[j]? with
    | none => simp [hc] at hx
    | some u =>
      simp [hc] at hx
      subst hx
      exact ⟨u, by simpa using hc, ofV1_vr u⟩
  · exact ofV1_vr v

def FrR (ok : Nat → Prop) (h : Array Obj) (m : Map) (fr : Fr) (tmps : Array Value) : Prop := ∀ t, VR ok h m (fr.get t) (tmps.getD t undef)

theorem opnd_vr {fr : Fr} {a : Act} (hf : FrR ok w.heap m fr a.tmps) (x : Operand) : VR ok w.heap m (opnd fr x) (a.eval x) := by
  cases x with
  | tmp t => exact hf t
  | const v => exact ofV_vr v
  | global g => exact .dead
  | func f => exact .fn' rfl (fun j x hx => by simp at hx)

theorem opnds_vr {fr : Fr} {a : Act} (hf : FrR ok w.heap m fr a.tmps) : ∀ l : List Operand, CR ok w.heap m (opnds fr l) (l.map a.eval).toArray 0
  | [] => fun j x hx => by simp [opnds] at hx
  | y :: l => fun j x hx => by
    cases j with
    | zero => simp [opnds] at hx; subst hx; exact ⟨a.eval y, by simp, opnd_vr hf y⟩
    | succ j =>
      simp only [opnds, List.getElem?_cons_succ] at hx
      obtain ⟨v, hv, hr⟩ := opnds_vr hf l j x hx
      exact ⟨v, by simpa using hv, hr⟩

omit [Syms] in
theorem opnds_length (fr : Fr) : ∀ l : List Operand, (opnds fr l).length = l.length
  | [] => rfl
  | _ :: l => by simp [opnds, opnds_length fr l]

/-- Cells read as a value of a type. -/
theorem sim_take (hT : TyOK P T) {t : TypeId} {cs : List AV} {off : Nat} {v : AV} (ht : takeT T t cs off = some v) {β o : Nat} {C : Array Value} {e : TypeId} {z : Nat × Nat}
    (hC : w.heap[β]? = some (.cells C e z)) (hr : CR ok w.heap m cs C o) :
    ∃ cv, (loadVar t ⟨β, o + off, none⟩).run P w = .ok cv w ∧ VR ok w.heap m v cv := by
  unfold takeT at ht
  split at ht
  · rename_i ti hti
    obtain ⟨i, d, hi, hd, hin, _, _, hda, _⟩ := hT t ti hti
    rw [hin] at ht
    cases hag : ti.ag with
    | true =>
      rw [hag] at hda
      have hda := hda.symm
      simp only [hag, takeCells, cond_true] at ht
      cases hle : (off + i.size).ble cs.length with
      | false => simp [hle] at ht
      | true =>
        simp only [hle, cond_true, Option.some.injEq] at ht
        have hle' := Nat.le_of_ble_eq_true hle
        subst ht
        obtain ⟨g, h1, h2⟩ := hr.fun
        have hl := run_loadCells (P := P) w ⟨β, o + off, none⟩ i.size (fun j => g (off + j)) (fun j hj => by
          rw [add_none, cell_of hC, Nat.add_assoc]; exact h1 _ (by omega))
        refine ⟨.agg (List.map (fun j => g (off + j)) (List.range i.size)).toArray, by
          simp only [loadVar, Sem.run_bind, run_isAgg' hd, hda, Result.andThen_ok, if_true, run_sizeOf' hi, hl, Sem.run_pure], .agg' (by simp; omega) fun j x hx => ?_⟩
        rw [List.getElem?_take] at hx
        split at hx
        · rename_i hj
          rw [List.getElem?_drop] at hx
          exact ⟨g (off + j), by simp [hj], h2 _ _ hx⟩
        · cases hx
    | false =>
      rw [hag] at hda
      have hda := hda.symm
      simp only [hag, takeCells, cond_false] at ht
      split at ht
      · rename_i x hx
        cases hone : x.one with
        | false => simp [hone] at ht
        | true =>
          simp only [hone, cond_true, Option.some.injEq] at ht
          subst ht
          obtain ⟨u, hu, hv⟩ := hr off x hx
          exact ⟨u, by simp [loadVar, run_isAgg' hd, hda, cell_of hC, hu], hv⟩
      · cases ht
  · cases ht

/-- Cells of an aggregate taken as a value of a type. -/
theorem sim_part (hT : TyOK P T) {t : TypeId} {cs : List AV} {off : Nat} {v : AV} (ht : takeT T t cs off = some v) {C : Array Value} (hr : CR ok w.heap m cs C 0) (hsz : C.size = cs.length) :
    ∃ cv, (part t C off).run P w = .ok cv w ∧ VR ok w.heap m v cv := by
  unfold takeT at ht
  split at ht
  · rename_i ti hti
    obtain ⟨i, d, hi, hd, hin, _, _, hda, _⟩ := hT t ti hti
    rw [hin] at ht
    cases hag : ti.ag with
    | true =>
      rw [hag] at hda
      have hda := hda.symm
      simp only [hag, takeCells, cond_true] at ht
      cases hle : (off + i.size).ble cs.length with
      | false => simp [hle] at ht
      | true =>
        simp only [hle, cond_true, Option.some.injEq] at ht
        have hle' := Nat.le_of_ble_eq_true hle
        subst ht
        refine ⟨.agg (C.extract off (off + i.size)), by simp [part, run_isAgg' hd, hda, run_sizeOf' hi], .agg' (by simp; omega) fun j x hx => ?_⟩
        rw [List.getElem?_take] at hx
        split at hx
        · rename_i hj
          rw [List.getElem?_drop] at hx
          obtain ⟨u, hu, hv⟩ := hr _ _ hx
          refine ⟨u, ?_, hv⟩
          rw [Array.getElem?_extract, if_pos (by omega)]
          simpa [Nat.zero_add] using hu
        · cases hx
    | false =>
      rw [hag] at hda
      have hda := hda.symm
      simp only [hag, takeCells, cond_false] at ht
      split at ht
      · rename_i x hx
        cases hone : x.one with
        | false => simp [hone] at ht
        | true =>
          simp only [hone, cond_true, Option.some.injEq] at ht
          subst ht
          obtain ⟨u, hu, hv⟩ := hr off x hx
          rw [Nat.zero_add] at hu
          exact ⟨u, by simp [part, run_isAgg' hd, hda, hu], hv⟩
      · cases ht
  · cases ht

end
end Go.Proofs.Ytmkmjjodiicmlaa.VS

/- Loads, stores, new variables: the model's and the abstract machine's. Conditions: none. -/
namespace Go.Proofs.Ytmkmjjodiicmlaa.VS
variable [Syms]

/-- A row with some cells set. -/
def setArr (C : Array Value) : Nat → List Value → Array Value
  | _, [] => C
  | o, v :: r => setArr (C.setIfInBounds o v) (o + 1) r

omit [Syms] in
theorem size_setArr : ∀ (vs : List Value) (C : Array Value) (o : Nat), (setArr C o vs).size = C.size
  | [], _, _ => rfl
  | v :: r, C, o => by rw [setArr, size_setArr r]; simp

omit [Syms] in
theorem getElem?_setArr : ∀ (vs : List Value) (C : Array Value) (o j : Nat), o + vs.length ≤ C.size →
    (setArr C o vs)[j]? = if o ≤ j ∧ j < o + vs.length then vs[j - o]? else C[j]?
  | [], C, o, j, _ => by simp [setArr]; omega
  | v :: r, C, o, j, h => by
    simp only [List.length_cons] at h ⊢
    rw [setArr, getElem?_setArr r _ _ _ (by simp; omega), Array.getElem?_setIfInBounds]
    by_cases h1 : o + 1 ≤ j ∧ j < o + 1 + r.length
    · rw [if_pos h1, if_pos (by omega), show j - o = (j - (o + 1)) + 1 by omega, List.getElem?_cons_succ]
    · rw [if_neg h1]
      by_cases h2 : o = j
      · subst h2
        rw [if_pos rfl, if_pos (by omega), if_pos (by omega)]
        simp
      · rw [if_neg h2, if_neg (by omega)]

omit [Syms] in
theorem heap_setCell_at {w : World} {β : Nat} {C : Array Value} {e : TypeId} {z : Nat × Nat} (h : w.heap[β]? = some (.cells C e z)) (o : Nat) (v : Value) :
    (w.setCell ⟨β, o, none⟩ v).heap[β]? = some (.cells (C.setIfInBounds o v) e z) := by
  simp only [World.setCell, Array.getElem?_modify, h]
  simp

omit [Syms] in
theorem heap_setCells : ∀ (vs : List Value) {w : World} {β : Nat} {C : Array Value} {e : TypeId} {z : Nat × Nat} (_ : w.heap[β]? = some (.cells C e z)) (o : Nat),
    (w.setCells β o vs).heap[β]? = some (.cells (setArr C o vs) e z)
  | [], _, _, _, _, _, h, _ => h
  | v :: r, w, β, C, e, z, h, o => by rw [World.setCells, setArr]; exact heap_setCells r (heap_setCell_at h o v) (o + 1)

omit [Syms] in
theorem heap_setCells_ne : ∀ (vs : List Value) (w : World) (β o γ : Nat), γ ≠ β → (w.setCells β o vs).heap[γ]? = w.heap[γ]?
  | [], _, _, _, _, _ => rfl
  | v :: r, w, β, o, γ, h => by
    rw [World.setCells, heap_setCells_ne r _ _ _ _ h, heap_setCell_other _ _ _ _ h]

omit [Syms] in
theorem setCells_alike : ∀ (vs : List Value) (w : World) (β o : Nat), Alike w (w.setCells β o vs) ∧ (w.setCells β o vs).heap.size = w.heap.size
  | [], w, _, _ => ⟨⟨rfl, rfl, rfl⟩, rfl⟩
  | v :: r, w, β, o => by
    have := setCells_alike r (w.setCell ⟨β, o, none⟩ v) β (o + 1)
    rw [World.setCells]
    exact ⟨⟨this.1.os, this.1.tape, this.1.output⟩, by rw [this.2]; simp⟩

omit [Syms] in
theorem setCells_length {cs : List AV} {off : Nat} {new : List AV} (h : off + new.length ≤ cs.length) : (setCells cs off new).length = cs.length := by
  simp [setCells]; omega

omit [Syms] in
theorem getElem?_setCells {cs : List AV} {off : Nat} {new : List AV} (h : off + new.length ≤ cs.length) (j : Nat) :
    (setCells cs off new)[j]? = if off ≤ j ∧ j < off + new.length then new[j - off]? else cs[j]? := by
  unfold setCells
  have hl : (cs.take off).length = off := by rw [List.length_take]; omega
  by_cases h1 : j < off
  · rw [if_neg (by omega), List.append_assoc, List.getElem?_append_left (by omega), List.getElem?_take, if_pos h1]
  · by_cases h2 : j < off + new.length
    · rw [if_pos (by omega), List.append_assoc, List.getElem?_append_right (by omega), List.getElem?_append_left (by omega), hl]
    · rw [if_neg (by omega), List.getElem?_append_right (by simp; omega), List.getElem?_drop]
      congr 1
      simp
      omega

section
variable {P : Program} {ok : Nat → Prop} {m : Map} {h : Array Obj}

/-- Cells set on both sides. -/
theorem CR.set {cs : List AV} {C : Array Value} {o off : Nat} {new : List AV} {vs : Array Value} (hr : CR ok h m cs C o) (hn : CR ok h m new vs 0) (hs : vs.size = new.length)
    (hle : off + new.length ≤ cs.length) (hC : o + cs.length ≤ C.size) : CR ok h m (setCells cs off new) (setArr C (o + off) vs.toList) o := by
  intro j x hx
  rw [getElem?_setCells hle] at hx
  rw [getElem?_setArr _ _ _ _ (by simp; omega)]
  simp only [Array.length_toList, hs]
  by_cases h1 : off ≤ j ∧ j < off + new.length
  · rw [if_pos h1] at hx
    obtain ⟨v, hv, hr'⟩ := hn _ _ hx
    refine ⟨v, ?_, hr'⟩
    rw [if_pos (by omega)]
    rw [Nat.zero_add] at hv
    rw [show o + j - (o + off) = j - off by omega]
    simpa using hv
  · rw [if_neg h1] at hx
    obtain ⟨v, hv, hr'⟩ := hr _ _ hx
    exact ⟨v, by rw [if_neg (by omega)]; exact hv, hr'⟩

omit [Syms] in
theorem noMap_le (m : Map) : MLe noMap m := fun _ _ h => by cases h

theorem CR.any {cs : List AV} {C : Array Value} {o : Nat} (hr : CR ok h noMap cs C o) : CR ok h m cs C o := hr.mono (fun _ _ _ _ a b => ⟨a, b⟩) (noMap_le m)

omit [Syms] in
theorem fits_one {a : AV} (hf : a.fits = true) : ∀ x ∈ a.cells, x.one = true := by
  intro x hx
  cases a with
  | agg cs => exact (List.all_eq_true.1 hf) x hx
  | dead => simp [AV.fits] at hf
  | tup vs => simp [AV.fits] at hf
  | _ => simp [AV.cells] at hx; subst hx; rfl

/-- A value that may be stored: its cells, on both sides. -/
theorem VR.stored {a : AV} {v : Value} (H : VR ok h m a v) (hf : a.fits = true) :
    v.cells.size = a.cells.length ∧ CR ok h m a.cells v.cells 0 ∧ ∀ x ∈ v.cells, x.oneCell' = true := by
  obtain ⟨h1, h2⟩ := H.cells (fun vs e => by subst e; simp [AV.fits] at hf) (fun e => by subst e; simp [AV.fits] at hf)
  refine ⟨h1, h2, fun x hx => ?_⟩
  obtain ⟨j, hj, rfl⟩ := Array.mem_iff_getElem.1 hx
  have hj' : j < a.cells.length := by omega
  obtain ⟨u, hu, hr⟩ := h2 j a.cells[j] (List.getElem?_eq_getElem hj')
  rw [Nat.zero_add, Array.getElem?_eq_getElem hj] at hu
  cases hu
  exact (hr.one (fits_one hf _ (List.getElem_mem hj'))).1

end

section
variable {P : Program} {T : Tabs} {c : Ctx} {m : Map} {H : Heap} {F : List Nat} {w : World}

/-- A row within a row, as a value. -/
theorem SubR.vr {ok : Nat → Prop} {h : Array Obj} {m : Map} {b i : Nat} {L : Loc} {d : List UInt8} {v : Value} (hs : SubR h d v (L.subs i)) (hm : m b = some L) : VR ok h m (.sub b i d.length) v := by
  cases hS : L.subs i with
  | none =>
    rw [hS] at hs
    obtain ⟨rfl, a, rfl⟩ := hs
    exact .subE hm hS
  | some S =>
    rw [hS] at hs
    obtain ⟨⟨c, rfl, h1, h2⟩, h3, _⟩ := hs
    exact .sub hm hS (by omega) h1 h2

/-- The cells that an address leads to, on both sides. -/
theorem SR.addr (hs : SR c m H F w) {a : AV} {q : List AV × Nat} (hc : cellsAt H a = some q) {v : Value} (hv : VR (okB c.X m H F) w.heap m a v) :
    ∃ (β o : Nat) (C : Array Value) (e : TypeId) (z : Nat × Nat), v = .pointer (some ⟨β, o + q.2, none⟩) ∧ w.heap[β]? = some (.cells C e z) ∧ CR (okB c.X m H F) w.heap m q.1 C o := by
  unfold cellsAt at hc
  split at hc
  · rename_i b off
    split at hc
    · rename_i cs hb
      cases hc
      cases hv with
      | ptr h1 h2 h3 =>
        obtain ⟨L', k1, k0, C, e, z, k2, k3, k4, k5⟩ := hs.obj b _ hb
        rw [h1] at k1; cases k1
        subst h2; subst h3
        exact ⟨_, 0, C, e, z, by simp [k0], k2, k5⟩
    · cases hc
  · rename_i b i off
    have arr : ∀ {s : Nat} {xs : List AV}, (∀ L, m b = some L → ArrR (okB c.X m H F) w.heap m L s xs) → ∀ {x : AV}, xs[i]? = some x → q = (x.cells, off) →
        ∃ (β o : Nat) (C : Array Value) (e : TypeId) (z : Nat × Nat), v = .pointer (some ⟨β, o + q.2, none⟩) ∧ w.heap[β]? = some (.cells C e z) ∧ CR (okB c.X m H F) w.heap m q.1 C o := by
      intro s xs hA x hx hq
      subst hq
      cases hv with
      | eptr h1 h2 h3 =>
        obtain ⟨ks, kp, ke, kl, C, e, z, k2, k3, k4, k5, k6⟩ := hA _ h1
        subst h2; subst h3
        refine ⟨_, _, C, e, z, rfl, k2, fun j y hy => ?_⟩
        have hj : j < x.cells.length := by
          rcases Nat.lt_or_ge j x.cells.length with hj | hj
          · exact hj
          · simp [List.getElem?_eq_none hj] at hy
        rw [kl x (List.mem_of_getElem? hx)] at hj
        obtain ⟨u, hu, hr⟩ := k6 _ _ ((flat_getElem? kl hx hj).trans hy)
        exact ⟨u, by rw [ks, Nat.add_assoc]; exact hu, hr⟩
    split at hc
    · rename_i s xs hb
      split at hc
      · rename_i x hx
        cases hc
        exact arr (fun L hL => by
          exact hs.objm hb hL) hx rfl
      · cases hc
    · rename_i t xs hb
      split at hc
      · rename_i x hx
        cases hc
        exact arr (s := t.size) (xs := encs t xs) (fun L hL => hs.objm hb hL) (x := enc t x) (by simp [encs, hx]) rfl
      · cases hc
    · rename_i xs lo hb
      split at hc
      · rename_i x hx
        cases hl : lo.ble i with
        | false => rw [hl] at hc; cases hc
        | true =>
          rw [hl] at hc; cases hc
          cases hv with
          | eptr h1 h2 h3 =>
            obtain ⟨⟨ks, _⟩, ⟨C, e, z, k2, k3, k4, k5, k6⟩, _⟩ : DeepR w.heap _ xs lo := hs.objm hb h1
            obtain ⟨g1, u, g2, g3⟩ := k6 i x hx (Nat.le_of_ble_eq_true hl)
            subst h2; subst h3
            refine ⟨_, _, C, e, z, rfl, k2, fun j y hy => ?_⟩
            rw [ks]
            match j, hy with
            | 0, hy => cases hy; exact ⟨_, g1, .int _ _⟩
            | 1, hy => cases hy; exact ⟨u, g2, g3.vr h1⟩
            | j + 2, hy => simp [subCells] at hy
      · cases hc
    · cases hc
  · rename_i x
    cases hc
    cases hv with
    | cptr g h1 h2 h3 h4 => exact ⟨_, _, _, _, _, by simp, h2, (CR.mk h3 h4).any⟩
  · cases hc

theorem sim_aload (hT : TyOK P T) (hs : SR c m H F w) {t : TypeId} {a x : AV} (ha : aload T H t a = some x) {v : Value} (hv : VR (okB c.X m H F) w.heap m a v) :
    ∃ cv, (Instr.loadAt t v).run P w = .ok cv w ∧ VR (okB c.X m H F) w.heap m x cv := by
  unfold aload at ha
  split at ha
  · rename_i q hq
    obtain ⟨β, o, C, e, z, rfl, hC, hr⟩ := hs.addr hq hv
    obtain ⟨cv, h1, h2⟩ := sim_take hT ha hC hr
    exact ⟨cv, by simp [Instr.loadAt, Instr.sureAddr, h1], h2⟩
  · cases ha

omit [Syms] in
theorem hlive_some {b : Nat} {o : AObj} (h : hlive H F b = some o) : hget H b = some o ∧ b ∉ F := by
  unfold hlive at h
  cases hb : isIn b F with
  | true => simp [hb] at h
  | false => simp [hb] at h; exact ⟨h, (isIn_false b F).1 hb⟩

omit [Syms] in
theorem fitsN_some {n : Nat} {v : AV} (h : fitsN n v = true) : v.fits = true ∧ v.cells.length = n := by
  unfold fitsN at h
  simp only [Bool.and_eq_true] at h
  exact ⟨h.1, Nat.eq_of_beq_eq_true h.2⟩

omit [Syms] in
/-- Cells stored at an address. -/
theorem run_stored {β o : Nat} {C : Array Value} {e : TypeId} {z : Nat × Nat} (hC : w.heap[β]? = some (.cells C e z)) {s : Nat} (hz : NoFz s C z) {t : TypeId} {i : TypeInfo} (hi : P.info? t = some i) {v : Value}
    (hsz : v.cells.size = i.size) (hle : o + i.size ≤ C.size) (h1 : ∀ x ∈ v.cells, x.oneCell' = true) :
    (Instr.storeAt t (.pointer (some ⟨β, o, none⟩)) v).run P w = .ok () (w.setCells β o v.cells.toList) := by
  have := run_storeCells_cells (P := P) β o v.cells.toList 0 w (fun j hj => by
      rw [cell_of hC, Nat.add_zero]
      simp only [Array.length_toList] at hj
      simp [show o + j < C.size by omega]) (fun j hj => frozen_of hC hz (by simp only [Array.length_toList] at hj; omega)) (fun x hx => h1 x (by simpa using hx))
  simp [Instr.storeAt, Instr.sureAddr, storeVar, run_sizeOf' hi, hsz, this]

omit [Syms] in
theorem flat_set {s : Nat} {xs : List AV} {i : Nat} {x y : AV} (h : ∀ x ∈ xs, x.cells.length = s) (hx : xs[i]? = some x) (hy : y.cells.length = s) :
    flat (xs.set i y) = setCells (flat xs) (i * s) y.cells := by
  have hi : i < xs.length := by
    rcases Nat.lt_or_ge i xs.length with hi | hi
    · exact hi
    · simp [List.getElem?_eq_none hi] at hx
  rw [List.set_eq_take_append_cons_drop, if_pos hi, flat_append, flat_cons, flat_take i h, flat_drop (i + 1) h]
  simp only [setCells, hy, List.append_assoc]
  congr 3
  rw [Nat.add_mul]; omega

omit [Syms] in
theorem setPart_some {x y : AV} {off : Nat} {new : List AV} (h : setPart x off new = some y) (h1 : ∀ z ∈ new, z.one = true) :
    off + new.length ≤ x.cells.length ∧ y.cells = setCells x.cells off new ∧ y.cells.length = x.cells.length := by
  have single : ∀ {x : AV} {y : AV} {off : Nat} {new : List AV}, x.cells = [x] → (match off, new with | 0, [v] => some v | _, _ => none) = some y → (∀ z ∈ new, z.one = true) →
      off + new.length ≤ x.cells.length ∧ y.cells = setCells x.cells off new ∧ y.cells.length = x.cells.length := by
    intro x y off new hx hm hn
    split at hm
    · cases hm
      have hc : ∀ v : AV, v.one = true → v.cells = [v] := fun v hv => by cases v <;> first | rfl | simp [AV.one] at hv
      rw [hx, hc y (hn y (by simp))]
      simp [setCells]
    · cases hm
  unfold setPart at h
  split at h
  · rename_i cs
    cases hle : (off + new.length).ble cs.length with
    | false => simp [hle] at h
    | true =>
      simp only [hle, cond_true, Option.some.injEq] at h
      subst h
      have := Nat.le_of_ble_eq_true hle
      exact ⟨this, rfl, setCells_length this⟩
  · cases h
  · cases h
  · rename_i h3 h4 h5
    refine single ?_ h h1
    cases x <;> first | rfl | exact absurd rfl (h3 _) | exact absurd rfl (h5 _)

/-- A store. -/
theorem sim_astore (hT : TyOK P T) (hs : SR c m H F w) {t : TypeId} {a x : AV} {q : Nat × AObj} (ha : astore T H F t a x = some q) {va vx : Value} (hva : VR (okB c.X m H F) w.heap m a va) (hvx : VR (okB c.X m H F) w.heap m x vx) :
    ∃ w', (Instr.storeAt t va vx).run P w = .ok () w' ∧ Ext c m H F w m (hset H q.1 q.2) F w' ∧ SR c m (hset H q.1 q.2) F w' := by
  unfold astore at ha
  split at ha
  · rename_i n hn
    obtain ⟨i, hi, hin⟩ := szOf_some hT hn
    cases hf : fitsN n x with
    | false => simp [hf] at ha
    | true =>
      simp only [hf, cond_true] at ha
      obtain ⟨hfit, hlen⟩ := fitsN_some hf
      obtain ⟨k1, k2, k3⟩ := hvx.stored hfit
      split at ha
      · rename_i b off
        unfold astoreP at ha
        split at ha
        · rename_i cs hb
          obtain ⟨hb, hbF⟩ := hlive_some hb
          cases hle : (off + x.cells.length).ble cs.length with
          | false => simp [hle] at ha
          | true =>
            simp only [hle, cond_true, Option.some.injEq] at ha
            have hle := Nat.le_of_ble_eq_true hle
            subst ha
            obtain ⟨L, h1, rfl⟩ := hva.ptr_inv
            · obtain ⟨L', j1, j0, C, e, z, j2, j3, j4, j5⟩ := hs.obj b _ hb
              rw [h1] at j1; cases j1
              rw [j0, Nat.zero_add]
              have hrun := run_stored (o := off) j2 j4 hi (v := vx) (by omega) (by omega) k3
              obtain ⟨al, asz⟩ := setCells_alike vx.cells.toList w L.blk off
              obtain ⟨hx, hsr⟩ := hs.write hb hbF h1 al asz (o' := .cells (setCells cs off x.cells)) (fun γ hγ => heap_setCells_ne _ _ _ _ _ hγ)
              refine ⟨_, hrun, hx, hsr ⟨j0, _, _, _, heap_setCells _ j2 off, by rw [size_setArr, setCells_length hle]; exact j3, by rw [NoFz, size_setArr]; exact j4, ?_⟩⟩
              have := CR.set (j5.mono hx.kk hx.mm) (k2.mono hx.kk hx.mm) k1 hle (by omega)
              rwa [Nat.zero_add] at this
        · cases ha
      · rename_i b i' off
        unfold astoreE at ha
        split at ha
        · rename_i s xs hb
          obtain ⟨hb, hbF⟩ := hlive_some hb
          split at ha
          · rename_i y hy
            split at ha
            · rename_i y' hy'
              cases ha
              obtain ⟨p1, p2, p3⟩ := setPart_some hy' (fits_one hfit)
              obtain ⟨L, h1, rfl⟩ := hva.eptr_inv
              · obtain ⟨js, jp, je, jl, C, e, z, j2, j3, j4, j5, j6⟩ := hs.objm hb h1
                have hyl := jl y (List.mem_of_getElem? hy)
                have hi' : i' < xs.length := by
                  rcases Nat.lt_or_ge i' xs.length with hi | hi
                  · exact hi
                  · simp [List.getElem?_eq_none hi] at hy
                have hmul : i' * s + s ≤ xs.length * s := by
                  have := Nat.mul_le_mul_right s (show i' + 1 ≤ xs.length from hi')
                  rw [Nat.add_mul] at this; omega
                have hfl := flat_length jl
                have hrun := run_stored (o := L.off + i' * L.sz + off) j2 j4 hi (v := vx) (by omega) (by rw [js]; omega) k3
                obtain ⟨al, asz⟩ := setCells_alike vx.cells.toList w L.blk (L.off + i' * L.sz + off)
                obtain ⟨hx, hsr⟩ := hs.write hb hbF h1 al asz (o' := .arr s (xs.set i' y')) (fun γ hγ => heap_setCells_ne _ _ _ _ _ hγ)
                refine ⟨_, hrun, hx, hsr ⟨js, jp, by simpa using je, fun u hu => ?_, _, _, _, heap_setCells _ j2 _, by rw [size_setArr]; exact j3, by rw [NoFz, size_setArr]; exact j4, by rw [size_setArr]; simpa using j5, ?_⟩⟩
                · rcases List.mem_or_eq_of_mem_set hu with hu | rfl
                  · exact jl u hu
                  · omega
                · have hset : flat (xs.set i' y') = setCells (flat xs) (i' * s + off) x.cells := by
                    rw [flat_set jl hy (by omega), p2]
                    apply List.ext_getElem?
                    intro j
                    rw [getElem?_setCells (cs := flat xs) (off := i' * s) (by rw [setCells_length p1]; omega), getElem?_setCells (cs := flat xs) (off := i' * s + off) (by omega), setCells_length p1]
                    by_cases q1 : i' * s ≤ j ∧ j < i' * s + y.cells.length
                    · rw [if_pos q1, getElem?_setCells p1]
                      by_cases q2 : off ≤ j - i' * s ∧ j - i' * s < off + x.cells.length
                      · rw [if_pos q2, if_pos (by omega)]; congr 1; omega
                      · rw [if_neg q2, if_neg (by omega), ← flat_getElem? jl hy (j := j - i' * s) (by omega)]; congr 1; omega
                    · rw [if_neg q1, if_neg (by omega)]
                  rw [hset]
                  subst js
                  have h9 := CR.set (o := L.off) (off := i' * L.sz + off) (j6.mono hx.kk hx.mm) (k2.mono hx.kk hx.mm) k1 (by omega) (by omega)
                  rw [← Nat.add_assoc] at h9
                  exact h9
            · cases ha
          · cases ha
        · cases ha
      · cases ha
  · cases ha

end
end Go.Proofs.Ytmkmjjodiicmlaa.VS

/- Each operation that only reckons or reads: the model answers what the abstract machine does. Conditions: none. -/
namespace Go.Proofs.Ytmkmjjodiicmlaa.VS
variable [Syms]

omit [Syms] in
theorem ble_le {a b : Nat} (h : a.ble b = true) : a ≤ b := Nat.le_of_ble_eq_true h
omit [Syms] in
theorem blt_lt {a b : Nat} (h : a.blt b = true) : a < b := Nat.le_of_ble_eq_true h
omit [Syms] in
theorem beq_eq' {a b : Nat} (h : a.beq b = true) : a = b := Nat.eq_of_beq_eq_true h

section
variable {P : Program} {T : Tabs} {ok : Nat → Prop} {m : Map} {w : World}

omit [Syms] in
/-- Cells filled: on both sides. -/
theorem foldl_setArr (off : Nat) : ∀ (vs : List Value) (k : Nat) (C : Array Value),
    (vs.zipIdx k).foldl (fun cs (p : Value × Nat) => cs.setIfInBounds (off + p.2) p.1) C = setArr C (off + k) vs
  | [], _, _ => rfl
  | v :: r, k, C => by
    rw [List.zipIdx_cons, List.foldl_cons, foldl_setArr off r (k + 1), setArr]
    rfl

omit [Syms] in
theorem fill_step (place : Nat → Option (Nat × Nat)) (C : Array Value) (i : Nat) (v : Value) (rest : List (Nat × Value)) {off size : Nat} (hp : place i = some (off, size)) (hs : v.cells.size = size) (hle : off + size ≤ C.size) :
    Instr.fill place C ((i, v) :: rest) = Instr.fill place (setArr C off v.cells.toList) rest := by
  have hf : Array.foldl (fun cs (x : Value × Nat) => Array.setIfInBounds cs (off + x.2) x.1) C v.cells.zipIdx = setArr C off v.cells.toList := by
    rw [← Array.foldl_toList, Array.toList_zipIdx]
    exact foldl_setArr off v.cells.toList 0 C
  simp only [Instr.fill, hp]
  rw [if_neg (by simp; omega)]
  exact congrArg (fun c => Instr.fill place c rest) hf

theorem sim_fill {place place' : Nat → Option (Nat × Nat)} (hpl : ∀ i q, place i = some q → place' i = some q) : ∀ (ps : List (Nat × AV)) (vs : List (Nat × Value)) (cs : List AV) (C : Array Value) (out : List AV),
    vs.length = ps.length → (∀ (j : Nat) (p : Nat × AV) (q : Nat × Value), ps[j]? = some p → vs[j]? = some q → p.1 = q.1 ∧ VR ok w.heap m p.2 q.2) → C.size = cs.length → CR ok w.heap m cs C 0 → fillA place cs ps = some out →
    ∃ D, Instr.fill place' C vs = some D ∧ D.size = out.length ∧ CR ok w.heap m out D 0
  | [], vs, cs, C, out, hl, _, hs, hr, ho => by
    have : vs = [] := List.length_eq_zero_iff.1 (by simpa using hl)
    subst this
    simp [fillA] at ho; subst ho
    exact ⟨C, rfl, hs, hr⟩
  | p :: ps, [], _, _, _, hl, _, _, _, _ => by simp at hl
  | p :: ps, (i, v) :: vs, cs, C, out, hl, hv, hs, hr, ho => by
    obtain ⟨h1, h2⟩ := hv 0 p (i, v) (by simp) (by simp)
    simp only at h1 h2
    rw [fillA] at ho
    split at ho
    · cases ho
    · rename_i q hq
      cases hc : fitsN q.2 p.2 && (q.1 + q.2).ble cs.length with
      | false => simp [hc] at ho
      | true =>
        simp only [hc, cond_true] at ho
        simp only [Bool.and_eq_true] at hc
        obtain ⟨hfit, hlen⟩ := fitsN_some hc.1
        have hle := ble_le hc.2
        obtain ⟨k1, k2, k3⟩ := h2.stored hfit
        rw [h1] at hq
        rw [fill_step place' C i v vs (off := q.1) (size := q.2) (hpl i q hq) (by omega) (by omega)]
        refine sim_fill hpl ps vs _ _ out (by simpa using hl) (fun j a b ha hb => hv (j + 1) a b (by simpa using ha) (by simpa using hb)) (by rw [size_setArr, setCells_length (by omega)]; exact hs) ?_ ho
        have := CR.set (o := 0) (off := q.1) hr k2 k1 (by omega) (by omega)
        rwa [Nat.zero_add] at this

omit [Syms] in
theorem run_zeroValue {t : TypeId} {i : TypeInfo} {z : Value} (hi : P.info? t = some i) (hz : i.zero = some z) : (zeroValue t).run P w = .ok z w := by
  simp [zeroValue, typeInfo, hi, hz]

omit [Syms] in
theorem run_mapPlaces (hT : TyOK P T) : ∀ (fs : List Field) (l : List (Nat × Nat)), placesOf T (fs.map fdOf) = some l →
    (fs.mapM (m := Sem) fun f => do pure (f.offset, ← sizeOf f.type)).run P w = .ok l w
  | [], l, h => by simp [placesOf] at h; subst h; rfl
  | f :: fs, l, h => by
    simp only [List.map_cons, placesOf] at h
    split at h
    · rename_i n l' hn hl
      cases h
      obtain ⟨i, hi, hin⟩ := szOf_some hT hn
      have hi' : P.info? f.type = some i := hi
      have := run_mapPlaces hT fs l' hl
      simp only [List.mapM_cons, Sem.run_bind, run_sizeOf' hi', Result.andThen_ok, Sem.run_pure, this, hin]
      rfl
    · cases h

omit [Syms] in
theorem parts_length (fr : Fr) : ∀ l : List (Nat × Operand), (parts fr l).length = l.length
  | [] => rfl
  | _ :: l => by simp [parts, parts_length fr l]

theorem parts_vr {fr : Fr} {a : Act} (hf : FrR ok w.heap m fr a.tmps) : ∀ (l : List (Nat × Operand)) (j : Nat) (p : Nat × AV) (q : Nat × Value), (parts fr l)[j]? = some p → (l.map fun x => (x.1, a.eval x.2))[j]? = some q → p.1 = q.1 ∧ VR ok w.heap m p.2 q.2
  | [], j, p, q, hp, _ => by simp [parts] at hp
  | x :: l, 0, p, q, hp, hq => by
    simp [parts] at hp hq
    subst hp; subst hq
    exact ⟨rfl, opnd_vr hf x.2⟩
  | x :: l, j + 1, p, q, hp, hq => by
    simp only [parts, List.getElem?_cons_succ, List.map_cons] at hp hq
    exact parts_vr hf l j p q hp hq

theorem sim_build (hT : TyOK P T) {fr : Fr} {a : Act} (hf : FrR ok w.heap m fr a.tmps) {t : TypeId} {ps : Array (Nat × Operand)} {v : AV} (h : abuild T t (parts fr ps.toList) = some v) :
    ∃ cv, (Instr.build t (ps.map fun (i, x) => (i, a.eval x))).run P w = .ok cv w ∧ VR ok w.heap m v cv := by
  unfold abuild at h
  split at h
  · rename_i z pl hz hpl
    split at h
    · rename_i cs hcs
      cases h
      obtain ⟨i, zv, hi, hzv, hza⟩ := zeroOf_some hT hz
      have hzr : VR ok w.heap m (.agg z) zv := by rw [hza]; exact ofV_vr zv
      obtain ⟨zs, rfl, hzs, hzc⟩ := hzr.agg_inv
      have hl : (ps.map fun (x : Nat × Operand) => (x.1, a.eval x.2)).toList.length = (parts fr ps.toList).length := by simp [parts_length]
      have hv := parts_vr hf ps.toList
      unfold places at hpl
      split at hpl
      · rename_i fs hfs
        split at hpl
        · rename_i l hl'
          cases hpl
          obtain ⟨fields, hu, rfl⟩ := kind_struct hT hfs
          have hm := run_mapPlaces (w := w) hT fields.toList l hl'
          obtain ⟨D, hD, hDs, hDr⟩ := sim_fill (w := w) (place := (l[·]?)) (place' := (l.toArray[·]?)) (fun i q hq => by simpa using hq) _ (ps.map fun (x : Nat × Operand) => (x.1, a.eval x.2)).toList z zs cs hl
            (by intro j p q hp hq; exact hv j p q hp (by simpa using hq)) hzs hzc hcs
          refine ⟨.agg D, ?_, .agg' hDs hDr⟩
          simp only [Instr.build, Sem.run_bind, run_zeroValue hi hzv, Result.andThen_ok, run_underlying hu]
          rw [← Array.toArray_toList (xs := fields), List.mapM_toArray]
          simp only [Sem.run_map, hm, Result.andThen_ok]
          simp only [Value.cells] at hD ⊢
          rw [hD]
          rfl
        · cases hpl
      · rename_i n e hk
        split at hpl
        · rename_i s hs
          cases hpl
          have hu := kind_array hT hk
          obtain ⟨i', hi', rfl⟩ := szOf_some hT hs
          obtain ⟨D, hD, hDs, hDr⟩ := sim_fill (w := w) (place := fun i => some (i * i'.size, i'.size)) (place' := fun i => some (i * i'.size, i'.size)) (fun i q hq => hq) _ (ps.map fun (x : Nat × Operand) => (x.1, a.eval x.2)).toList z zs cs hl
            (by intro j p q hp hq; exact hv j p q hp (by simpa using hq)) hzs hzc hcs
          refine ⟨.agg D, ?_, .agg' hDs hDr⟩
          simp only [Instr.build, Sem.run_bind, run_zeroValue hi hzv, Result.andThen_ok, run_underlying hu, run_sizeOf' hi']
          simp only [Value.cells] at hD ⊢
          rw [hD]
          rfl
        · cases hpl
      · cases hpl
    · cases h
  · cases h

theorem sim_fieldAddr (hT : TyOK P T) {t : TypeId} {x v : AV} {f : Nat} (h : afieldAddr T t x f = some v) {vx : Value} (hx : VR ok w.heap m x vx) :
    ∃ cv, (Instr.fieldAt t vx f).run P w = .ok cv w ∧ VR ok w.heap m v cv := by
  unfold afieldAddr at h
  split at h
  · rename_i fd hfd
    obtain ⟨fields, y, hu, hy, rfl⟩ := fieldOf_some hT hfd
    split at h
    · rename_i n hn
      obtain ⟨i, hi, hin⟩ := szOf_some hT hn
      have hi' : P.info? y.type = some i := hi
      have key : ∀ (β o : Nat), (Instr.fieldAt t (.pointer (some ⟨β, o, none⟩)) f).run P w = .ok (.pointer (some ⟨β, o + y.offset, none⟩)) w := by
        intro β o
        simp [Instr.fieldAt, run_underlying hu, hy, Instr.sureAddr, fieldPlace, run_sizeOf' hi', hin, add_none]
      split at h
      · cases h
        obtain ⟨L, h1, rfl⟩ := hx.ptr_inv
        exact ⟨_, key _ _, .ptr h1 rfl (by simp [fdOf]; omega)⟩
      · cases h
        obtain ⟨L, h1, rfl⟩ := hx.eptr_inv
        exact ⟨_, key _ _, .eptr h1 rfl (by simp [fdOf]; omega)⟩
      · rename_i u
        split at h
        · rename_i x' hx'
          cases hfit : x'.fits with
          | false => simp [hfit] at h
          | true =>
            simp only [hfit, cond_true, Option.some.injEq] at h
            subst h
            cases hx with
            | cptr g h1 h2 h3 h4 =>
              rename_i β o C e z
              refine ⟨_, key _ _, ?_⟩
              -- the part's cells lie behind the field's place
              have hcr : CR ok w.heap noMap u.cells C o := CR.mk h3 h4
              have hpart : ∃ s : Nat, s + y.offset = y.offset + s ∧ ∀ j q, x'.cells[j]? = some q → ∃ cv, C[o + y.offset + j]? = some cv ∧ VR ok w.heap noMap q cv := by
                refine ⟨0, by omega, fun j q hq => ?_⟩
                unfold takeT at hx'
                split at hx'
                · rename_i ti hti
                  cases hag : ti.ag with
                  | true =>
                    simp only [hag, takeCells, cond_true] at hx'
                    cases hle : ((fdOf y).off + ti.size).ble u.cells.length with
                    | false => simp [hle] at hx'
                    | true =>
                      simp only [hle, cond_true, Option.some.injEq] at hx'
                      subst hx'
                      simp only [AV.cells] at hq
                      obtain ⟨cv, hcv, hr⟩ := (hcr.drop (fdOf y).off).take ti.size j q hq
                      exact ⟨cv, hcv, hr⟩
                  | false =>
                    simp only [hag, takeCells, cond_false] at hx'
                    split at hx'
                    · rename_i q' hq'
                      cases hone : q'.one with
                      | false => simp [hone] at hx'
                      | true =>
                        simp only [hone, cond_true, Option.some.injEq] at hx'
                        subst hx'
                        obtain ⟨cv, hcv, hr⟩ := hcr _ _ hq'
                        have hc1 : q'.cells = [q'] := by cases q' <;> first | rfl | simp [AV.one] at hone
                        rw [hc1] at hq
                        cases j with
                        | zero => simp at hq; subst hq; exact ⟨cv, hcv, hr⟩
                        | succ j => simp at hq
                    · cases hx'
                · cases hx'
              obtain ⟨_, _, hp⟩ := hpart
              obtain ⟨g', k1, k2⟩ := CR.fun (cs := x'.cells) (C := C) (o := o + y.offset) hp
              exact .cptr g' h1 h2 k1 k2
        · cases h
      · cases h
    · cases h
  · cases h

theorem sim_field (hT : TyOK P T) {t : TypeId} {x v : AV} {f : Nat} (h : afield T t x f = some v) {vx : Value} (hx : VR ok w.heap m x vx) :
    ∃ cv, (Instr.field t vx f).run P w = .ok cv w ∧ VR ok w.heap m v cv := by
  unfold afield at h
  split at h
  · split at h
    · rename_i fd hfd
      obtain ⟨fields, y, hu, hy, rfl⟩ := fieldOf_some hT hfd
      obtain ⟨vs, rfl, hs, hr⟩ := hx.agg_inv
      obtain ⟨cv, h1, h2⟩ := sim_part hT h hr hs
      exact ⟨cv, by simpa [Instr.field, run_underlying hu, hy, asAgg, fdOf] using h1, h2⟩
    · cases h
  · cases h

end
end Go.Proofs.Ytmkmjjodiicmlaa.VS

/- Indexes, cuts, sums, comparisons, lengths: the model answers what the abstract machine does. Conditions: none. -/
namespace Go.Proofs.Ytmkmjjodiicmlaa.VS
variable [Syms]

section
variable {ok : Nat → Prop} {h : Array Obj} {m : Map}

theorem VR.sl_inv {xs : List AV} {v : Value} (H : VR ok h m (.sl xs) v) (hne : xs ≠ []) :
    ∃ (β o : Nat) (C : Array Value) (e : TypeId) (z : Nat × Nat) (s c : Nat), v = .slice (some ⟨β, o, none⟩) xs.length c ∧ ok β ∧ h[β]? = some (.cells C e z) ∧ 0 < s ∧ (∀ x ∈ xs, x.cells.length = s) ∧ xs.length ≤ c ∧ CR ok h noMap (flat xs) C o := by
  cases H with
  | slE h1 => exact absurd rfl hne
  | sl g h1 h2 h3 h4 h5 h6 h7 h8 h9 => subst h2; exact ⟨_, _, _, _, _, _, _, rfl, h3, h4, h5, h6, h7, CR.mk h8 h9⟩

theorem VR.sl_any {xs : List AV} {v : Value} (H : VR ok h m (.sl xs) v) : ∃ a c, v = .slice a xs.length c ∧ xs.length ≤ c := by
  cases H with
  | slE h1 => exact ⟨_, _, rfl, Nat.zero_le _⟩
  | sl g h1 h2 h3 h4 h5 h6 h7 h8 h9 => subst h2; exact ⟨_, _, rfl, h7⟩

theorem VR.osl_inv {s b lo len : Nat} {v : Value} (H : VR ok h m (.osl s b lo len) v) : ∃ L, m b = some L ∧ 0 < s ∧ L.sz = s ∧
    ((len = 0 ∧ L.ext ≤ lo ∧ ∃ a, v = .slice (some a) 0 0) ∨
     (∃ c, v = .slice (some ⟨L.blk, L.off + lo * s, none⟩) len c ∧ lo + len ≤ L.ext ∧ L.ext ≤ lo + c ∧ L.off + (lo + c) * s ≤ L.csz)) := by
  cases H with
  | oslE h1 h2 h3 h4 => exact ⟨_, h1, h3, h4, .inl ⟨rfl, h2, _, rfl⟩⟩
  | osl h1 h2 h3 h4 h5 h6 h7 h8 => subst h5; subst h6; exact ⟨_, h1, h3, h4, .inr ⟨_, rfl, h2, h7, h8⟩⟩

theorem VR.osl_any {s b lo len : Nat} {v : Value} (H : VR ok h m (.osl s b lo len) v) : ∃ a c, v = .slice (some a) len c ∧ len ≤ c := by
  obtain ⟨L, h1, h2, h3, h4⟩ := H.osl_inv
  rcases h4 with ⟨rfl, _, a, rfl⟩ | ⟨c, rfl, h5, h6, _⟩
  · exact ⟨_, _, rfl, Nat.le_refl _⟩
  · exact ⟨_, _, rfl, by omega⟩

/-- An option of a value on both sides. -/
def OVR (ok : Nat → Prop) (h : Array Obj) (m : Map) : Option AV → Option Value → Prop
  | none, none => True
  | some a, some v => VR ok h m a v
  | _, _ => False
end

section
variable {P : Program} {T : Tabs} {ok : Nat → Prop} {m : Map} {w : World}

theorem mapO_vr {fr : Fr} {a : Act} (hf : FrR ok w.heap m fr a.tmps) (x : Option Operand) : OVR ok w.heap m (mapO fr x) (x.map a.eval) := by
  cases x with
  | none => trivial
  | some x => exact opnd_vr hf x

theorem sim_indexAddr (hT : TyOK P T) {t : TypeId} {x ix v : AV} (h : aindexAddr T t x ix = some v) {vx vi : Value} (hx : VR ok w.heap m x vx) (hi : VR ok w.heap m ix vi) :
    ∃ cv, (Instr.indexAt t vx vi).run P w = .ok cv w ∧ VR ok w.heap m v cv := by
  unfold aindexAddr at h
  split at h
  · rename_i k i
    cases hi
    split at h
    · rename_i e hk
      have hu := kind_slice hT hk
      split at h
      · rename_i n hn
        obtain ⟨ti, hti, hsz⟩ := szOf_some hT hn
        have row : ∀ {xs : List AV} {y : AV}, VR ok w.heap m (.sl xs) vx → xs[i]? = some y → y.cells.length = n → 0 < n →
            ∃ cv, (Instr.indexAt t vx (.int k i)).run P w = .ok cv w ∧ VR ok w.heap m (.cptr y) cv := by
          intro xs y hx hy hyn hn0
          have hil : i < xs.length := by
            rcases Nat.lt_or_ge i xs.length with hil | hil
            · exact hil
            · simp [List.getElem?_eq_none hil] at hy
          obtain ⟨β, o, C, et, z, s, c, rfl, k1, k2, k3, k4, k5, k6⟩ := hx.sl_inv (by intro e; subst e; simp at hil)
          have hys := k4 y (List.mem_of_getElem? hy)
          refine ⟨.pointer (some ⟨β, o + i * s, none⟩), ?_, ?_⟩
          · simp [Instr.indexAt, asIntOf, run_underlying hu, hil, run_sizeOf' hti, hsz, add_none, ← hyn, hys]
          · have hcr : CR ok w.heap noMap y.cells C (o + i * s) := by
              intro j q hq
              have hj : j < y.cells.length := by
                rcases Nat.lt_or_ge j y.cells.length with hj | hj
                · exact hj
                · simp [List.getElem?_eq_none hj] at hq
              obtain ⟨u, hu', hr⟩ := k6 _ _ ((flat_getElem? k4 hy (by omega)).trans hq)
              exact ⟨u, by rw [Nat.add_assoc]; exact hu', hr⟩
            obtain ⟨g, g1, g2⟩ := hcr.fun
            exact .cptr g k1 k2 g1 g2
        unfold idxSl at h
        split at h
        · rename_i xs
          split at h
          · rename_i y hy
            cases hc : y.cells.length.beq n && Nat.blt 0 n with
            | false => simp [hc] at h
            | true =>
              simp only [hc, cond_true, Option.some.injEq] at h
              simp only [Bool.and_eq_true] at hc
              subst h
              exact row hx hy (beq_eq' hc.1) (blt_lt hc.2)
          · cases h
        · rename_i s b lo len
          cases hc : i.blt len && s.beq n with
          | false => simp [hc] at h
          | true =>
            simp only [hc, cond_true, Option.some.injEq] at h
            simp only [Bool.and_eq_true] at hc
            have hil := blt_lt hc.1
            have hsn := beq_eq' hc.2
            subst h
            obtain ⟨L, k1, k2, k3, k4⟩ := hx.osl_inv
            rcases k4 with ⟨k5, _⟩ | ⟨c, rfl, _, _, _⟩
            · omega
            · refine ⟨.pointer (some ⟨L.blk, L.off + lo * s + i * s, none⟩), ?_, .eptr k1 rfl (by rw [k3, Nat.add_mul]; omega)⟩
              simp [Instr.indexAt, asIntOf, run_underlying hu, hil, run_sizeOf' hti, hsz, add_none, ← hsn]
        · rename_i g b len
          cases hc : i.blt len && g.size.beq n with
          | false => simp [hc] at h
          | true =>
            simp only [hc, cond_true, Option.some.injEq] at h
            simp only [Bool.and_eq_true] at hc
            have hil := blt_lt hc.1
            have hsn := beq_eq' hc.2
            subst h
            cases hx with
            | gsE => omega
            | gs hx =>
              obtain ⟨L, k1, k2, k3, k4⟩ := hx.osl_inv
              rcases k4 with ⟨k5, _⟩ | ⟨c, hv2, _, _, _⟩
              · omega
              · cases hv2
                refine ⟨.pointer (some ⟨L.blk, L.off + 0 * g.size + i * g.size, none⟩), ?_, .eptr k1 rfl (by rw [k3, Nat.zero_mul]; omega)⟩
                simp [Instr.indexAt, asIntOf, run_underlying hu, hil, run_sizeOf' hti, hsz, add_none, ← hsn]
        · rename_i b q len
          cases hc : i.blt len && n.beq 1 with
          | false => simp [hc] at h
          | true =>
            simp only [hc, cond_true, Option.some.injEq] at h
            simp only [Bool.and_eq_true] at hc
            have hil := blt_lt hc.1
            have hsn := beq_eq' hc.2
            subst h
            cases hx with
            | subE => omega
            | sub h1 h2 h3 h4 h5 =>
              refine ⟨_, ?_, .psub h1 h2⟩
              simp [Instr.indexAt, asIntOf, run_underlying hu, hil, run_sizeOf' hti, hsz, add_none, hsn]
        · rename_i gt xs
          split at h
          · rename_i y hy
            cases hc : gt.size.beq n with
            | false => simp [hc] at h
            | true =>
              simp only [hc, cond_true, Option.some.injEq] at h
              subst h
              have hn' := beq_eq' hc
              cases hx with
              | tl hx => exact row (y := enc gt y) hx (by simp [encs, hy]) (by rw [enc_size]; exact hn') (by rw [← hn']; exact gt.size_pos)
          · cases h
        · cases h
      · cases h
    · rename_i len e hk
      have hu := kind_array hT hk
      split at h
      · rename_i n hn
        obtain ⟨ti, hti, hsz⟩ := szOf_some hT hn
        unfold idxArr at h
        split at h
        · rename_i b off
          cases hc : i.blt len with
          | false => simp [hc] at h
          | true =>
            simp only [hc, cond_true, Option.some.injEq] at h
            have hil := blt_lt hc
            subst h
            obtain ⟨L, k1, rfl⟩ := hx.ptr_inv
            refine ⟨.pointer (some ⟨L.blk, L.off + off + i * n, none⟩), ?_, .ptr k1 rfl (by omega)⟩
            simp [Instr.indexAt, asIntOf, run_underlying hu, Instr.sureAddr, hil, run_sizeOf' hti, hsz, add_none]
        · cases h
      · cases h
    · cases h
  · cases h

omit [Syms] in
theorem str_get {l : List UInt8} {s : ByteArray} (hs : s.data.toList = l) (i : Nat) : s[i]? = l[i]? := by
  subst hs
  by_cases h : i < s.size
  · rw [getElem?_pos s i h]
    simp [ByteArray.getElem_eq_getElem_data]
  · rw [getElem?_neg s i h]
    simp
    exact Nat.le_of_not_lt h

theorem sim_index (hT : TyOK P T) {t : TypeId} {x ix v : AV} (h : aindex T t x ix = some v) {vx vi : Value} (hx : VR ok w.heap m x vx) (hi : VR ok w.heap m ix vi) :
    ∃ cv, (Instr.index t vx vi).run P w = .ok cv w ∧ VR ok w.heap m v cv := by
  unfold aindex at h
  split at h
  · rename_i s k i hk
    have hu := kind_str hT hk
    cases hi
    obtain ⟨bs, rfl, hbs⟩ := hx.str_inv
    split at h
    · rename_i c hc
      cases h
      refine ⟨.int .u8 c.toNat, ?_, .int _ _⟩
      have := (str_get hbs i).trans hc
      simp [Instr.index, asIntOf, run_underlying hu, this]
    · cases h
  · rename_i len e cs k i hk
    have hu := kind_array hT hk
    cases hi
    split at h
    · rename_i n hn
      obtain ⟨ti, hti, hsz⟩ := szOf_some hT hn
      cases hc : i.blt len with
      | false => simp [hc] at h
      | true =>
        simp only [hc, cond_true] at h
        have hil := blt_lt hc
        obtain ⟨vs, rfl, hs, hr⟩ := hx.agg_inv
        obtain ⟨cv, h1, h2⟩ := sim_part hT h hr hs
        exact ⟨cv, by simpa [Instr.index, asIntOf, run_underlying hu, hil, run_sizeOf' hti, hsz] using h1, h2⟩
    · cases h
  · cases h

theorem run_bound {a : AV} {v : Value} {i y : Nat} (hb : bnd 0 (some a) = some i) (hv : VR ok w.heap m a v) (hle : i ≤ y) (code : BoundsCode) : (Instr.sliceBound v y code).run P w = .ok i w := by
  unfold bnd at hb
  split at hb
  · rename_i heq; cases heq
  · rename_i k n heq
    cases heq; cases hb
    cases hv
    simp [Instr.sliceBound, asIntOf, hle]
  · cases hb

theorem run_sliceBounds {lo hi : Option AV} {clo chi : Option Value} (hlo : OVR ok w.heap m lo clo) (hhi : OVR ok w.heap m hi chi) {n c l r : Nat} (hb : bnds n lo hi = some (l, r)) (hnc : n ≤ c) (isS : Bool) :
    (Instr.sliceBounds isS n c clo chi none).run P w = .ok (l, r, c) w ∧ l ≤ r ∧ r ≤ n := by
  unfold bnds at hb
  split at hb
  · rename_i l' r' h1 h2
    cases hc : l'.ble r' && r'.ble n with
    | false => simp [hc] at hb
    | true =>
      simp only [hc, cond_true, Option.some.injEq, Prod.mk.injEq] at hb
      obtain ⟨rfl, rfl⟩ := hb
      simp only [Bool.and_eq_true] at hc
      have hlr := ble_le hc.1
      have hrn := ble_le hc.2
      refine ⟨?_, hlr, hrn⟩
      have hnone : ∀ d e : Nat, bnd d none = some e → e = d := fun d e h => by simpa [bnd] using h.symm
      have hany : ∀ (a : AV) (d d' : Nat), bnd d (some a) = bnd d' (some a) := fun a d d' => by
        cases a <;> try rfl
        rename_i k n; cases n <;> rfl
      cases lo with
      | none =>
        cases clo with
        | some _ => exact hlo.elim
        | none =>
          have := hnone _ _ h1; subst this
          cases hi with
          | none =>
            cases chi with
            | some _ => exact hhi.elim
            | none => have := hnone _ _ h2; subst this; simp [Instr.sliceBounds]
          | some b =>
            cases chi with
            | none => exact hhi.elim
            | some vb =>
              have := run_bound (P := P) (y := c) ((hany b 0 n).trans h2) hhi (by omega) (if isS then .sliceAcap else .sliceAlen)
              simp [Instr.sliceBounds, this]
      | some a =>
        cases clo with
        | none => exact hlo.elim
        | some va =>
          cases hi with
          | none =>
            cases chi with
            | some _ => exact hhi.elim
            | none =>
              have := hnone _ _ h2; subst this
              have := run_bound (P := P) h1 hlo hlr .sliceB
              simp [Instr.sliceBounds, this]
          | some b =>
            cases chi with
            | none => exact hhi.elim
            | some vb =>
              have k1 := run_bound (P := P) (y := c) ((hany b 0 n).trans h2) hhi (by omega) (if isS then .sliceAcap else .sliceAlen)
              have k2 := run_bound (P := P) h1 hlo hlr .sliceB
              simp [Instr.sliceBounds, k1, k2]
  · cases hb

omit [Syms] in
theorem run_cut {t e : TypeId} {ti : TypeInfo} (hu : P.underlying t = some (.slice e)) (hti : P.info? e = some ti) {a : Option Addr} {n c l r : Nat} {clo chi : Option Value}
    (hr : (Instr.sliceBounds true n c clo chi none).run P w = .ok (l, r, c) w) :
    (Instr.sliceAt t (.slice a n c) clo chi none).run P w = .ok (.slice (if c = l then a else a.map (·.add (l * ti.size))) (r - l) (c - l)) w := by
  simp only [Instr.sliceAt, Sem.run_bind, run_underlying hu, Result.andThen_ok, Instr.slice, hr, run_sizeOf' hti, Sem.run_pure]

theorem sim_slice (hT : TyOK P T) {t : TypeId} {x v : AV} {lo hi mx : Option AV} (h : aslice T t x lo hi mx = some v) {vx : Value} {clo chi cmx : Option Value} (hx : VR ok w.heap m x vx)
    (hlo : OVR ok w.heap m lo clo) (hhi : OVR ok w.heap m hi chi) (hmx : OVR ok w.heap m mx cmx) :
    ∃ cv, (Instr.sliceAt t vx clo chi cmx).run P w = .ok cv w ∧ VR ok w.heap m v cv := by
  unfold aslice at h
  cases mx with
  | some _ => cases h
  | none =>
  cases cmx with
  | some _ => exact hmx.elim
  | none =>
  simp only at h
  split at h
  · rename_i hk
    have hu := kind_str hT hk
    split at h
    · rename_i s
      obtain ⟨bs, rfl, hbs⟩ := hx.str_inv
      split at h
      · rename_i p hp
        cases h
        have hsz : bs.size = s.length := by rw [← hbs]; exact Array.length_toList.symm
        obtain ⟨hr, hl, hn⟩ := run_sliceBounds (P := P) hlo hhi (l := p.1) (r := p.2) hp (Nat.le_refl _) false
        rw [← hsz] at hr
        refine ⟨.string (bs.extract p.1 p.2), by
          simp only [Instr.sliceAt, Sem.run_bind, run_underlying hu, Result.andThen_ok, Instr.slice, Option.isSome_none, Bool.false_eq_true, if_false, hr, Sem.run_pure], .str _ _ ?_⟩
        rw [ByteArray.data_extract, Array.toList_extract, hbs, List.extract_eq_take_drop, List.drop_take]
      · cases h
    · cases h
  · rename_i e hk
    have hu := kind_slice hT hk
    split at h
    · rename_i n hn
      obtain ⟨ti, hti, hsz⟩ := szOf_some hT hn
      have row0 : ∀ {p : Nat × Nat}, VR ok w.heap m (.sl []) vx → bnds 0 lo hi = some p → ∃ cv, (Instr.sliceAt t vx clo chi none).run P w = .ok cv w ∧ VR ok w.heap m (.sl []) cv := by
        intro p hx hp
        have hnil : ∀ (a : Option Addr) (c : Nat), vx = .slice a 0 c → a = none → c = 0 := by
          intro a c hv
          subst hv
          cases hx with
          | slE h1 => exact h1
          | sl g h1 => exact absurd rfl h1
        obtain ⟨a, c, rfl, hc⟩ := hx.sl_any
        obtain ⟨hr, hl, hn'⟩ := run_sliceBounds (P := P) hlo hhi (l := p.1) (r := p.2) hp hc true
        refine ⟨_, run_cut hu hti hr, ?_⟩
        have h1 : p.1 = 0 := by omega
        have h2 : p.2 = 0 := by omega
        simp only [h1, h2]
        refine .slE fun hn => ?_
        cases a with
        | none => simp [hnil none c rfl rfl]
        | some a => simp only [Option.map_some] at hn; split at hn <;> cases hn
      have row1 : ∀ {p : Nat × Nat} {x : AV} {xs : List AV}, VR ok w.heap m (.sl (x :: xs)) vx → bnds (x :: xs).length lo hi = some p → x.cells.length = n + 1 →
          ∃ cv, (Instr.sliceAt t vx clo chi none).run P w = .ok cv w ∧ VR ok w.heap m (.sl (((x :: xs).take p.2).drop p.1)) cv := by
        intro p x xs hx hp hxn
        obtain ⟨β, o, C, et, z, s, c, rfl, k1, k2, k3, k4, k5, k6⟩ := hx.sl_inv (by simp)
        have hxs := k4 x (by simp)
        obtain ⟨hr, hl, hn'⟩ := run_sliceBounds (P := P) hlo hhi (l := p.1) (r := p.2) (by simpa using hp) k5 true
        refine ⟨_, run_cut hu hti hr, ?_⟩
        by_cases he : p.2 = p.1
        · have : List.drop p.1 (List.take p.2 (x :: xs)) = [] := by
            rw [he]; exact List.drop_of_length_le (by simp; omega)
          rw [this, he, Nat.sub_self]
          exact .slE (by intro hn; simp only [Option.map_some] at hn; split at hn <;> cases hn)
        · have hcl : ¬ c = p.1 := by omega
          rw [if_neg hcl]
          simp only [Option.map_some, add_none]
          have hss : ti.size = s := by omega
          rw [hss]
          refine .sl' (C := C) (e := et) (z := z) (s := s) ?_ ?_ k1 k2 k3 (fun y hy => k4 y (List.mem_of_mem_take (List.mem_of_mem_drop hy))) (by omega) ?_
          · intro e'
            have := congrArg List.length e'
            rw [List.length_drop, List.length_take, List.length_nil] at this
            omega
          · rw [List.length_drop, List.length_take]; omega
          · rw [flat_drop p.1 (fun y hy => k4 y (List.mem_of_mem_take hy)), flat_take p.2 k4]
            exact (k6.take _).drop _
      have oslc : ∀ {s b o len : Nat} {p : Nat × Nat}, VR ok w.heap m (.osl s b o len) vx → bnds len lo hi = some p → s = n + 1 →
          ∃ cv, (Instr.sliceAt t vx clo chi none).run P w = .ok cv w ∧ VR ok w.heap m (.osl s b (o + p.1) (p.2 - p.1)) cv := by
        intro s b o len p hx hp hsn
        obtain ⟨L, k1, k2, k3, k4⟩ := hx.osl_inv
        rcases k4 with ⟨k5, k6, a, rfl⟩ | ⟨c, rfl, k5, k6, k7⟩
        · subst k5
          obtain ⟨hr, hl, hn'⟩ := run_sliceBounds (P := P) hlo hhi (l := p.1) (r := p.2) hp (Nat.le_refl _) true
          refine ⟨_, run_cut hu hti hr, ?_⟩
          have h1 : p.1 = 0 := by omega
          have h2 : p.2 = 0 := by omega
          simp only [h1, h2, if_true, Nat.add_zero, Nat.sub_self]
          exact .oslE k1 k6 k2 k3
        · obtain ⟨hr, hl, hn'⟩ := run_sliceBounds (P := P) hlo hhi (l := p.1) (r := p.2) hp (show len ≤ c by omega) true
          refine ⟨_, run_cut hu hti hr, ?_⟩
          by_cases he : c = p.1
          · have h2 : p.2 - p.1 = 0 := by omega
            have h3 : c - p.1 = 0 := by omega
            rw [if_pos he, h2, h3]
            exact .oslE k1 (by omega) k2 k3
          · rw [if_neg he]
            simp only [Option.map_some, add_none]
            have hss : ti.size = s := by omega
            rw [hss]
            refine .osl k1 (by omega) k2 k3 rfl (by rw [Nat.add_mul]; omega) (by omega) ?_
            rw [show o + p.1 + (c - p.1) = o + c by omega]; exact k7
      unfold asliceV at h
      split at h
      · split at h
        · rename_i p hp
          cases h
          cases hx
          obtain ⟨hr, hl, hn'⟩ := run_sliceBounds (P := P) hlo hhi (l := p.1) (r := p.2) hp (Nat.le_refl _) true
          refine ⟨_, run_cut hu hti hr, ?_⟩
          have h1 : p.1 = 0 := by omega
          have h2 : p.2 = 0 := by omega
          simp only [h1, h2]
          exact .nils
        · cases h
      · split at h
        · rename_i p hp
          cases h
          cases hx
          obtain ⟨hr, hl, hn'⟩ := run_sliceBounds (P := P) hlo hhi (l := p.1) (r := p.2) hp (Nat.le_refl _) true
          refine ⟨_, run_cut hu hti hr, ?_⟩
          have h1 : p.1 = 0 := by omega
          have h2 : p.2 = 0 := by omega
          simp only [h1, h2]
          exact .emp
        · cases h
      · split at h
        · rename_i p hp
          cases h
          exact row0 hx hp
        · cases h
      · rename_i x xs
        split at h
        · rename_i p hp
          cases hc : x.cells.length.beq (n + 1) with
          | false => simp [hc] at h
          | true =>
            simp only [hc, cond_true, Option.some.injEq] at h
            subst h
            exact row1 (x := x) (xs := xs) hx (by simpa using hp) (beq_eq' hc)
        · cases h
      · rename_i s b o len
        split at h
        · rename_i p hp
          cases hc : s.beq (n + 1) with
          | false => simp [hc] at h
          | true =>
            simp only [hc, cond_true, Option.some.injEq] at h
            subst h
            exact oslc hx hp (beq_eq' hc)
        · cases h
      · rename_i gt xs
        split at h
        · rename_i p hp
          cases hc : gt.size.beq (n + 1) with
          | false => simp [hc] at h
          | true =>
            simp only [hc, cond_true, Option.some.injEq] at h
            subst h
            cases hx with
            | tl hx =>
              cases xs with
              | nil =>
                obtain ⟨cv, g1, g2⟩ := row0 hx hp
                exact ⟨cv, g1, .tl (by simpa [encs] using g2)⟩
              | cons y ys =>
                obtain ⟨cv, g1, g2⟩ := row1 (x := enc gt y) (xs := encs gt ys) hx (by simpa [encs] using hp) (by rw [enc_size]; exact beq_eq' hc)
                refine ⟨cv, g1, .tl ?_⟩
                have : encs gt (((y :: ys).take p.2).drop p.1) = (((enc gt y :: encs gt ys).take p.2).drop p.1) := by
                  simp [encs, List.map_take, List.map_drop]
                rw [this]; exact g2
        · cases h
      · rename_i g b len
        split at h
        · rename_i p hp
          cases hc : g.size.beq (n + 1) with
          | false => simp [hc] at h
          | true =>
            simp only [hc, cond_true, Option.some.injEq] at h
            subst h
            cases hx with
            | gs hx => exact oslc hx hp (beq_eq' hc)
        · cases h
      · cases h
    · cases h
  · cases h

end
end Go.Proofs.Ytmkmjjodiicmlaa.VS

/- Sums, comparisons, lengths, lookups: the model answers what the abstract machine does. Conditions: none. -/
namespace Go.Proofs.Ytmkmjjodiicmlaa.VS
variable [Syms]

section
variable {P : Program} {T : Tabs} {ok : Nat → Prop} {m : Map} {w : World}

omit [Syms] in
theorem kindOf_eq {t : TypeId} {ti : TI} (h : T.ty.get t = some ti) : kindOf T t = ti.k := by simp [kindOf, h]

omit [Syms] in
theorem run_equalIn_sliceL (d : Nat) (t e : TypeId) (h : P.underlying t = some (.slice e)) (a : Option Addr) (n c : Nat) :
    (Op.equalIn (d + 1) t (.slice none 0 0) (.slice a n c)).run P w = .ok a.isNone w := by
  simp [Op.equalIn, run_underlying h]

omit [Syms] in
theorem run_equalIn_sliceR (d : Nat) (t e : TypeId) (h : P.underlying t = some (.slice e)) (a : Option Addr) (n c : Nat) :
    (Op.equalIn (d + 1) t (.slice a n c) (.slice none 0 0)).run P w = .ok a.isNone w := by
  cases a <;> simp [Op.equalIn, run_underlying h]

omit [Syms] in
theorem run_equalIn_ptrL (d : Nat) (t e : TypeId) (h : P.underlying t = some (.pointer e)) (a : Option Addr) :
    (Op.equalIn (d + 1) t (.pointer none) (.pointer a)).run P w = .ok a.isNone w := by
  simp [Op.equalIn, run_underlying h]

omit [Syms] in
theorem run_equalIn_ptrR (d : Nat) (t e : TypeId) (h : P.underlying t = some (.pointer e)) (a : Option Addr) :
    (Op.equalIn (d + 1) t (.pointer a) (.pointer none)).run P w = .ok a.isNone w := by
  cases a <;> simp [Op.equalIn, run_underlying h]

omit [Syms] in
theorem kind_ptr (hT : TyOK P T) {t : TypeId} (h : kindOf T t = .ptr) : ∃ e, P.underlying t = some (.pointer e) := by
  obtain ⟨d, h1, h2⟩ := kindOf_some hT h (by simp)
  cases d <;> simp [tkOf] at h2
  exact ⟨_, h1⟩

omit [Syms] in
theorem beq_lists {a b : ByteArray} {x y : List UInt8} (ha : a.data.toList = x) (hb : b.data.toList = y) : (a.toList == b.toList) = (x == y) := by
  rw [ByteArray.toList_eq, ByteArray.toList_eq, ha, hb]

omit [Syms] in
theorem eqRng_ok {k k' : IntKind} {lo hi b n : Int} {r : Bool} (h : eqRng k k' lo hi b = some r) (h1 : lo ≤ n) (h2 : n ≤ hi) : k = k' ∧ (n == b) = r ∧ (b == n) = r := by
  unfold eqRng at h
  split at h
  · rename_i hk
    refine ⟨hk, ?_⟩
    split at h
    · cases h; constructor <;> simp <;> omega
    · split at h
      · cases h; constructor <;> simp <;> omega
      · cases h
  · cases h

omit [Syms] in
theorem eqUs_ok {l : List (List UInt8)} {x b : List UInt8} {r : Bool} (h : eqUs l b = some r) (hx : x ∉ l) : (x == b) = r ∧ (b == x) = r := by
  unfold eqUs at h
  cases hc : l.contains b with
  | false => rw [hc, cond_false] at h; cases h
  | true =>
    rw [hc, cond_true, Option.some.injEq] at h
    subst h
    have hb : b ∈ l := by simpa using hc
    have hne : x ≠ b := fun e => hx (e ▸ hb)
    exact ⟨by simpa using hne, by simpa using fun e : b = x => hne e.symm⟩

theorem sim_eqOne (hT : TyOK P T) {t : TypeId} {x y : AV} {b : Bool} (h : eqOne (kindOf T t) x y = some b) {vx vy : Value} (hx : VR ok w.heap m x vx) (hy : VR ok w.heap m y vy) (d : Nat) :
    (Op.equalIn (d + 1) t vx vy).run P w = .ok b w := by
  unfold eqOne at h
  split at h
  · rename_i hk
    cases h; cases hx; cases hy
    exact run_equalIn_bool w d t _ _ (kind_bool hT hk)
  · rename_i k' _ _ _ _ hk
    split at h
    · rename_i hkk
      subst hkk
      cases h; cases hx; cases hy
      exact run_equalIn_int w d t _ k' _ _ (kind_int hT hk)
    · cases h
  · rename_i hk
    cases hx with
    | rng _ _ _ _ n e0 e1 e2 =>
    cases hy
    obtain ⟨rfl, g1, g2⟩ := eqRng_ok h e1 e2
    rw [run_equalIn_int w d t _ _ _ _ (kind_int hT hk), g1]
  · rename_i hk
    cases hy with
    | rng _ _ _ _ n e0 e1 e2 =>
    cases hx
    obtain ⟨rfl, g1, g2⟩ := eqRng_ok h e1 e2
    rw [run_equalIn_int w d t _ _ _ _ (kind_int hT hk), g2]
  · rename_i _ i _ _ _ j _ _ _ hk
    split at h
    · rename_i hkk
      subst hkk
      cases hx with
      | rng _ _ _ _ n e0 e1 e2 =>
      cases hy with
      | rng _ _ _ _ n' e0' e1' e2' =>
      cases hij : Nat.beq i j with
      | false => simp [hij] at h
      | true =>
        simp only [hij, cond_true, Option.some.injEq] at h
        subst h
        have hij := Nat.eq_of_beq_eq_true hij
        subst hij
        rw [run_equalIn_int w d t _ _ _ _ (kind_int hT hk), e0, e0']
        simp
    · cases h
  · rename_i hk
    cases h
    obtain ⟨s1, rfl, h1⟩ := hx.str_inv
    obtain ⟨s2, rfl, h2⟩ := hy.str_inv
    rw [run_equalIn_string w d t _ _ (kind_str hT hk), beq_lists h1 h2]
  · rename_i hk
    obtain ⟨s2, rfl, h2⟩ := hy.str_inv
    cases hx with
    | ustr _ _ s1 e1 e2 =>
    rw [run_equalIn_string w d t _ _ (kind_str hT hk), beq_lists rfl h2, (eqUs_ok h e2).1]
  · rename_i hk
    obtain ⟨s1, rfl, h1⟩ := hx.str_inv
    cases hy with
    | ustr _ _ s2 e1 e2 =>
    rw [run_equalIn_string w d t _ _ (kind_str hT hk), beq_lists h1 rfl, (eqUs_ok h e2).2]
  · rename_i i _ j _ hk
    cases hx with
    | ustr _ _ s1 e1 e2 =>
    cases hy with
    | ustr _ _ s2 e1' e2' =>
    cases hij : Nat.beq i j with
    | false => simp [hij] at h
    | true =>
      simp only [hij, cond_true, Option.some.injEq] at h
      subst h
      have hij := Nat.eq_of_beq_eq_true hij
      subst hij
      rw [run_equalIn_string w d t _ _ (kind_str hT hk), beq_lists e1 e1']
      simp
  · rename_i hk
    obtain ⟨e, hu⟩ := kind_ptr hT hk
    unfold eqPtr at h
    split at h
    · cases h; cases hx; cases hy
      exact run_equalIn_ptrL d t e hu none
    · cases h; cases hx
      obtain ⟨L, _, rfl⟩ := hy.ptr_inv
      exact run_equalIn_ptrL d t e hu _
    · cases h; cases hy
      obtain ⟨L, _, rfl⟩ := hx.ptr_inv
      exact run_equalIn_ptrR d t e hu _
    · cases h
  · rename_i e hk
    have hu := kind_slice hT hk
    unfold eqSl at h
    split at h
    · cases h; cases hx; cases hy
      exact run_equalIn_sliceL d t e hu none 0 0
    · cases h; cases hx
      obtain ⟨β, o, C, et, z, s, c, rfl, _⟩ := hy.sl_inv (by simp)
      exact run_equalIn_sliceL d t e hu _ _ _
    · cases h; cases hy
      obtain ⟨β, o, C, et, z, s, c, rfl, _⟩ := hx.sl_inv (by simp)
      exact run_equalIn_sliceR d t e hu _ _ _
    · cases h; cases hx; cases hy
      exact run_equalIn_sliceL d t e hu _ _ _
    · cases h; cases hy; cases hx
      exact run_equalIn_sliceR d t e hu _ _ _
    · cases h; cases hx
      obtain ⟨a, c, rfl, _⟩ := hy.osl_any
      exact run_equalIn_sliceL d t e hu _ _ _
    · cases h; cases hy
      obtain ⟨a, c, rfl, _⟩ := hx.osl_any
      exact run_equalIn_sliceR d t e hu _ _ _
    · cases h
  · cases h

omit [Syms] in
theorem sim_fields (d : Nat) {f : Fd → Option Bool} {xs ys : Array Value} (hf : ∀ (x : Field) (b : Bool), f (fdOf x) = some b →
      ∃ va vb, (part x.type xs x.offset).run P w = .ok va w ∧ (part x.type ys x.offset).run P w = .ok vb w ∧ (Op.equalIn d x.type va vb).run P w = .ok b w) :
    ∀ (fs : List Field) (b : Bool), allFields f (fs.map fdOf) = some b → (Op.eqFields d xs ys fs).run P w = .ok b w
  | [], b, h => by simp [allFields] at h; subst h; simp [Op.eqFields]
  | x :: fs, b, h => by
    simp only [List.map_cons, allFields] at h
    by_cases hn : x.name = "_"
    · have : (fdOf x).blank = true := by simp [fdOf, hn]
      simp only [this, cond_true] at h
      rw [Op.eqFields, if_neg (by simpa using hn)]
      exact sim_fields d hf fs b h
    · have : (fdOf x).blank = false := by simp [fdOf, hn]
      simp only [this, cond_false] at h
      rw [Op.eqFields, if_pos hn]
      split at h
      · rename_i hb
        obtain ⟨va, vb, h1, h2, h3⟩ := hf x true hb
        simp only [Sem.run_bind, h1, h2, h3, Result.andThen_ok, Bool.not_true, Bool.false_eq_true, if_false]
        exact sim_fields d hf fs b h
      · rename_i hb
        cases h
        obtain ⟨va, vb, h1, h2, h3⟩ := hf x false hb
        simp only [Sem.run_bind, h1, h2, h3, Result.andThen_ok, Bool.not_false, if_true, Sem.run_pure]
      · cases h

theorem sim_aeq (hT : TyOK P T) : ∀ (d : Nat) {t : TypeId} {x y : AV} {b : Bool}, aeq T d t x y = some b → ∀ {vx vy : Value}, VR ok w.heap m x vx → VR ok w.heap m y vy → ∀ D, d ≤ D →
    (Op.equalIn D t vx vy).run P w = .ok b w
  | 0, t, x, y, b, h => by simp [aeq] at h
  | d + 1, t, x, y, b, h => by
    intro hx hy D hD
    obtain ⟨D, rfl⟩ : ∃ D', D = D' + 1 := ⟨D - 1, by omega⟩
    rw [aeq] at h
    split at h
    · rename_i ti hti
      split at h
      · rename_i fields xs ys hk
        cases hc : ti.cmp with
        | false => simp [hc] at h
        | true =>
          simp only [hc, cond_true] at h
          obtain ⟨j, dsc, h1, h2, _, _, _, _, h3, h4⟩ := hT t ti hti
          obtain ⟨fs, hu, rfl⟩ := kind_struct hT ((kindOf_eq hti).trans hk)
          obtain ⟨va, rfl, sa, ra⟩ := hx.agg_inv
          obtain ⟨vb, rfl, sb, rb⟩ := hy.agg_inv
          have hf : P.fieldsOf t = fs := by simp [Program.fieldsOf, hu]
          rw [run_equalIn_struct w D t va vb (by rw [hf]; exact hu) (h4 hc).2, hf]
          refine sim_fields D (fun f b' hb' => ?_) fs.toList b h
          unfold both at hb'
          split at hb'
          · rename_i pa pb hpa hpb
            obtain ⟨ca, ra1, ra2⟩ := sim_part hT hpa ra sa
            obtain ⟨cb, rb1, rb2⟩ := sim_part hT hpb rb sb
            exact ⟨ca, cb, ra1, rb1, sim_aeq hT d hb' ra2 rb2 D (by omega)⟩
          · cases hb'
      · rw [← kindOf_eq hti] at h
        exact sim_eqOne hT h hx hy D
    · cases h

omit [Syms] in
theorem bytesLt_eq : ∀ a b : List UInt8, bytesLt a b = Op.bytesLess a b
  | _, [] => by cases ‹List UInt8› <;> rfl
  | [], _ :: _ => rfl
  | a :: x, b :: y => by rw [bytesLt, Op.bytesLess, bytesLt_eq x y]

theorem sim_astr {op : BinOp} {x y : List UInt8} {v : AV} (h : astr op x y = some v) {sx sy : ByteArray} (hx : sx.data.toList = x) (hy : sy.data.toList = y) :
    ∃ cv, (Op.stringOp op sx sy).run P w = .ok cv w ∧ VR ok w.heap m v cv := by
  have e1 : sx.toList = x := by rw [ByteArray.toList_eq, hx]
  have e2 : sy.toList = y := by rw [ByteArray.toList_eq, hy]
  cases op <;> simp only [astr] at h
  case add =>
    cases hc : (x.length + y.length).ble 1099511627776 with
    | false => simp [hc] at h
    | true =>
      simp only [hc, cond_true, Option.some.injEq] at h
      have := ble_le hc
      subst h
      have l1 : sx.size = x.length := by rw [← hx]; exact Array.length_toList.symm
      have l2 : sy.size = y.length := by rw [← hy]; exact Array.length_toList.symm
      have hmax : ¬ ((sx.size + sy.size : Nat) : Int) > IntKind.i64.max := by
        have : IntKind.i64.max = 9223372036854775807 := by decide
        omega
      refine ⟨.string (sx ++ sy), by simp only [Op.stringOp]; rw [if_neg hmax]; rfl, .str _ _ ?_⟩
      rw [ByteArray.data_append, Array.toList_append, hx, hy]
  all_goals first
    | (cases h; done)
    | (simp only [Option.some.injEq] at h; subst h; exact ⟨_, by simp only [Op.stringOp, e1, e2, ← bytesLt_eq]; rfl, .bool _⟩)

theorem sim_aint {op : BinOp} {k : IntKind} {a b : Int} {v : AV} (h : aint op k a b = some v) (hs : op ≠ .shl) (hr : op ≠ .shr) (t : TypeId) :
    ∃ cv, (binOp op t (.int k a) (.int k b)).run P w = .ok cv w ∧ VR ok w.heap m v cv := by
  cases op <;> simp only [aint, intv] at h
  case quo =>
    split at h
    · cases h
    · rename_i hb
      cases h
      exact ⟨_, by simp only [binOp, ne_eq, not_true_eq_false, if_false, Op.intDiv]; rw [if_neg hb]; rfl, .int _ _⟩
  case rem =>
    split at h
    · cases h
    · rename_i hb
      cases h
      exact ⟨_, by simp only [binOp, ne_eq, not_true_eq_false, if_false, Op.intDiv]; rw [if_neg hb]; rfl, .int _ _⟩
  all_goals first
    | (cases h; done)
    | exact absurd rfl hs
    | exact absurd rfl hr
    | (simp only [Option.some.injEq] at h; subst h; exact ⟨_, by simp only [binOp, ne_eq, not_true_eq_false, if_false]; rfl, .int _ _⟩)
    | (simp only [Option.some.injEq] at h; subst h; exact ⟨_, by simp only [binOp, ne_eq, not_true_eq_false, if_false]; rfl, .bool _⟩)

theorem sim_ashift {op : BinOp} {k k' : IntKind} {a b : Int} {v : AV} (h : ashift op k a b = some v) (hop : op = .shl ∨ op = .shr) (t : TypeId) :
    ∃ cv, (binOp op t (.int k a) (.int k' b)).run P w = .ok cv w ∧ VR ok w.heap m v cv := by
  unfold ashift at h
  split at h
  · cases h
  · rename_i hb
    rcases hop with rfl | rfl
    · simp only [intv, Option.some.injEq] at h; subst h
      exact ⟨_, by simp only [binOp, Op.shift]; rw [if_neg hb]; rfl, .int _ _⟩
    · simp only [Option.some.injEq] at h; subst h
      exact ⟨_, by simp only [binOp, Op.shift]; rw [if_neg hb]; rfl, .int _ _⟩

omit [Syms] in
/-- '==' and '!=' of what is neither a number nor a text. -/
theorem run_eqBoth {t : TypeId} {vx vy : Value} {b : Bool} (he : (Op.equal t vx vy).run P w = .ok b w) (hn : (∃ k n l n', vx = .int k n ∧ vy = .int l n') → False) (hs : (∃ a b, vx = .string a ∧ vy = .string b) → False)
    (hf : ∀ k n, vx ≠ .float k n) (hc : ∀ k n n', vx ≠ .complex k n n') :
    (binOp .eql t vx vy).run P w = .ok (.bool b) w ∧ (binOp .neq t vx vy).run P w = .ok (.bool !b) w := by
  constructor
  · cases vx <;> cases vy <;> first
      | exact (hn ⟨_, _, _, _, rfl, rfl⟩).elim
      | exact (hs ⟨_, _, rfl, rfl⟩).elim
      | exact absurd rfl (hf _ _)
      | exact absurd rfl (hc _ _ _)
      | simp [binOp, he]
  · cases vx <;> cases vy <;> first
      | exact (hn ⟨_, _, _, _, rfl, rfl⟩).elim
      | exact (hs ⟨_, _, rfl, rfl⟩).elim
      | exact absurd rfl (hf _ _)
      | exact absurd rfl (hc _ _ _)
      | simp [binOp, he]

theorem VR.noFloat {a : AV} {v : Value} (H : VR ok w.heap m a v) (hd : a ≠ .dead) : (∀ k n, v ≠ .float k n) ∧ ∀ k n n', v ≠ .complex k n n' := by
  cases a with
  | tl t xs =>
    obtain ⟨a, n, c, rfl⟩ := H.tl_slice
    exact ⟨fun _ _ => nofun, fun _ _ _ => nofun⟩
  | _ => cases H <;> first | exact absurd rfl hd | exact ⟨fun _ _ => nofun, fun _ _ _ => nofun⟩

end
end Go.Proofs.Ytmkmjjodiicmlaa.VS

