/- The abstract machine's state told by the model's: what each change of the heap does to it. Conditions: none. -/
import Derived.Test.YtopkeglpafdlfaaGreatVS2
namespace Go.Proofs.YtopkeglpafdlfaaGreat.VS
theorem beq_ne {k b : Nat} (h : ¬ k = b) : k.beq b = false := by
  cases e : k.beq b with
  | false => rfl
  | true => exact absurd (Nat.eq_of_beq_eq_true e) h

variable [Syms]

omit [Syms] in
theorem beq_same (k : Nat) : k.beq k = true := by induction k with
  | zero => rfl
  | succ n ih => exact ih
omit [Syms] in
theorem hget_cons (k : Nat) (o : AObj) (r : Heap) (b : Nat) : hget ((k, o) :: r) b = if k = b then some o else hget r b := by
  simp only [hget]
  by_cases h : k = b
  · subst h; simp
  · simp [beq_ne h, h]

omit [Syms] in
theorem hget_hdel : ∀ (H : Heap) (b c : Nat), hget (hdel H b) c = if b = c then none else hget H c
  | [], b, c => by simp [hdel, hget]
  | (k, o) :: r, b, c => by
    simp only [hdel]
    by_cases h : k = b
    · subst h
      simp only [beq_same, cond_true, hget_cons, hget_hdel r]
      split <;> rfl
    · simp only [beq_ne h, cond_false, hget_cons, hget_hdel r]
      by_cases h1 : k = c
      · subst h1; rw [if_pos rfl, if_neg (fun e => h e.symm)]; try rw [if_pos rfl]
      · simp [h1]

omit [Syms] in
theorem hget_hset : ∀ (H : Heap) (b c : Nat) (o : AObj), hget (hset H b o) c = if b = c then some o else hget H c
  | [], b, c, o => by simp only [hset, hget_cons]
  | (k, o') :: r, b, c, o => by
    simp only [hset]
    by_cases h : k = b
    · subst h
      simp only [beq_same, cond_true, hget_cons, hget_hdel]
      split <;> rfl
    · simp only [beq_ne h, cond_false, hget_cons, hget_hset r]
      by_cases h1 : k = c
      · subst h1; rw [if_pos rfl, if_neg (fun e => h e.symm)]; try rw [if_pos rfl]
      · simp [h1]

omit [Syms] in
theorem isIn_iff (b : Nat) : ∀ l : List Nat, isIn b l = true ↔ b ∈ l
  | [] => by simp [isIn]
  | a :: r => by
    simp only [isIn, List.mem_cons]
    by_cases h : a = b
    · subst h; simp
    · simp only [beq_ne h, cond_false, isIn_iff b r]
      exact ⟨.inr, fun h' => h'.resolve_left (fun e => h e.symm)⟩

omit [Syms] in
theorem isIn_false (b : Nat) (l : List Nat) : isIn b l = false ↔ b ∉ l := by
  rw [← isIn_iff]; simp

structure Ctx where
  X : Nat → Prop
  O : Nat → Prop
  w0 : World

/-- But for the rows O, all that was there is as it was. -/
structure Keep (O : Nat → Prop) (w w' : World) : Prop where
  os : w'.os = w.os
  tape : w'.tape = w.tape
  output : w'.output = w.output
  size : w.heap.size ≤ w'.heap.size
  block : ∀ β, β < w.heap.size → ¬ O β → w'.heap[β]? = w.heap[β]?

omit [Syms] in
theorem Keep.refl (O : Nat → Prop) (w : World) : Keep O w w := ⟨rfl, rfl, rfl, Nat.le_refl _, fun _ _ _ => rfl⟩

/-- A row that no variable of the machine's own may change. -/
def okB (X : Nat → Prop) (m : Map) (H : Heap) (F : List Nat) (β : Nat) : Prop :=
  ¬ X β ∧ ∀ b o L, hget H b = some o → b ∉ F → m b = some L → L.blk ≠ β

/-- No cell is frozen; only a row of single cells may bear a mark behind its last one. -/
def NoFz (s : Nat) (C : Array Value) (z : Nat × Nat) : Prop := z.1 = z.2 ∨ (s = 1 ∧ C.size ≤ z.1)

def ArrR (ok : Nat → Prop) (h : Array Obj) (m : Map) (L : Loc) (s : Nat) (xs : List AV) : Prop :=
  L.sz = s ∧ 0 < s ∧ L.ext = xs.length ∧ (∀ x ∈ xs, x.cells.length = s) ∧
      ∃ C e z, h[L.blk]? = some (.cells C e z) ∧ C.size = L.csz ∧ NoFz s C z ∧ L.off + xs.length * s ≤ C.size ∧ CR ok h m (flat xs) C L.off

def ObjR (ok : Nat → Prop) (h : Array Obj) (m : Map) (L : Loc) : AObj → Prop
  | .cells cs => L.off = 0 ∧ ∃ C e z, h[L.blk]? = some (.cells C e z) ∧ C.size = cs.length ∧ NoFz 0 C z ∧ CR ok h m cs C 0
  | .arr s xs => ArrR ok h m L s xs
  | .tarr t xs => ArrR ok h m L t.size (encs t xs)
  | .map es => ∃ (ents : Array MapEntry) (k : Nat), h[L.blk]? = some (.map ents k) ∧ ents.size = es.length ∧
      ∀ (j : Nat) (p : AV × AV), es[j]? = some p → ∃ q : MapEntry, ents[j]? = some q ∧ VR ok h m p.1 q.key ∧ VR ok h m p.2 q.val

/-- A row that may be none. -/
def Void (o : AObj) : Prop := (∃ t, o = .tarr t []) ∨ ∃ s, o = .arr s []

structure SR (c : Ctx) (m : Map) (H : Heap) (F : List Nat) (w : World) : Prop where
  xlt : ∀ β, c.X β → β < c.w0.heap.size
  all : ∀ b o, hget H b = some o → (∃ L, m b = some L ∧ ObjR (okB c.X m H F) w.heap m L o) ∨ (m b = none ∧ Void o)
  inj : ∀ b o b' o' L L', hget H b = some o → hget H b' = some o' → m b = some L → m b' = some L' → L.blk = L'.blk → b = b'
  nox : ∀ b o L, hget H b = some o → m b = some L → ¬ c.X L.blk
  own : ∀ b o L, hget H b = some o → m b = some L → c.O L.blk ∨ c.w0.heap.size ≤ L.blk
  keep : Keep c.O c.w0 w

theorem SR.objm {c : Ctx} {m : Map} {H : Heap} {F : List Nat} {w : World} (hs : SR c m H F w) {b : Nat} {o : AObj} {L : Loc} (hb : hget H b = some o) (hm : m b = some L) : ObjR (okB c.X m H F) w.heap m L o := by
  rcases hs.all b o hb with ⟨L', h1, h2⟩ | ⟨h1, _⟩
  · rw [hm] at h1; cases h1; exact h2
  · rw [hm] at h1; cases h1

/-- No row that may be none. -/
def Solid (o : AObj) : Prop := ¬ Void o

omit [Syms] in
theorem solid_cells (cs : List AV) : Solid (.cells cs) := fun h => by rcases h with ⟨_, h⟩ | ⟨_, h⟩ <;> cases h
omit [Syms] in
theorem solid_map (es : List (AV × AV)) : Solid (.map es) := fun h => by rcases h with ⟨_, h⟩ | ⟨_, h⟩ <;> cases h

theorem SR.obj {c : Ctx} {m : Map} {H : Heap} {F : List Nat} {w : World} (hs : SR c m H F w) (b : Nat) (o : AObj) (hb : hget H b = some o) (ho : Solid o := by first | exact solid_cells _ | exact solid_map _) : ∃ L, m b = some L ∧ ObjR (okB c.X m H F) w.heap m L o := by
  rcases hs.all b o hb with h | ⟨_, h2⟩
  · exact h
  · exact absurd h2 ho

theorem ObjR.there {ok : Nat → Prop} {h : Array Obj} {m : Map} {L : Loc} {o : AObj} (H : ObjR ok h m L o) : ∃ x, h[L.blk]? = some x := by
  cases o with
  | cells cs => obtain ⟨_, C, e, z, h1, _⟩ := H; exact ⟨_, h1⟩
  | arr s xs => obtain ⟨_, _, _, _, C, e, z, h1, _⟩ := H; exact ⟨_, h1⟩
  | tarr t xs => obtain ⟨_, _, _, _, C, e, z, h1, _⟩ := H; exact ⟨_, h1⟩
  | map es => obtain ⟨e, k, h1, _⟩ := H; exact ⟨_, h1⟩

omit [Syms] in
theorem lt_of_some {h : Array Obj} {i : Nat} {x : Obj} (H : h[i]? = some x) : i < h.size := by
  rcases Nat.lt_or_ge i h.size with hi | hi
  · exact hi
  · simp [Array.getElem?_eq_none hi] at H

theorem ObjR.lt {ok : Nat → Prop} {h : Array Obj} {m : Map} {L : Loc} {o : AObj} (H : ObjR ok h m L o) : L.blk < h.size := by
  obtain ⟨x, hx⟩ := H.there; exact lt_of_some hx

theorem SR.blt {c : Ctx} {m : Map} {H : Heap} {F : List Nat} {w : World} (hs : SR c m H F w) {b : Nat} {o : AObj} {L : Loc} (hb : hget H b = some o) (hm : m b = some L) : L.blk < w.heap.size := by
  exact (hs.objm hb hm).lt

/-- An object told at a row that stays is told still. -/
theorem ObjR.mono {ok ok' : Nat → Prop} {h h' : Array Obj} {m m' : Map} {L : Loc} {o : AObj} (H : ObjR ok h m L o)
    (hk : ∀ β C e z, ok β → h[β]? = some (.cells C e z) → ok' β ∧ h'[β]? = some (.cells C e z)) (hm : MLe m m') (hb : h'[L.blk]? = h[L.blk]?) : ObjR ok' h' m' L o := by
  cases o with
  | cells cs =>
    obtain ⟨h0, C, e, z, h1, h2, h3, h4⟩ := H
    exact ⟨h0, C, e, z, by rw [hb]; exact h1, h2, h3, h4.mono hk hm⟩
  | arr s xs =>
    obtain ⟨a, b, c, d, C, e, z, h1, h2, h3, h4, h5⟩ := H
    exact ⟨a, b, c, d, C, e, z, by rw [hb]; exact h1, h2, h3, h4, h5.mono hk hm⟩
  | tarr t xs =>
    obtain ⟨a, b, c, d, C, e, z, h1, h2, h3, h4, h5⟩ := H
    exact ⟨a, b, c, d, C, e, z, by rw [hb]; exact h1, h2, h3, h4, h5.mono hk hm⟩
  | map es =>
    obtain ⟨ents, k, h1, h2, h3⟩ := H
    refine ⟨ents, k, by rw [hb]; exact h1, h2, fun j p hp => ?_⟩
    obtain ⟨q, hq, ha, hv⟩ := h3 j p hp
    exact ⟨q, hq, ha.mono hk hm, hv.mono hk hm⟩

/-- From one state to a later one: what was told by rows that stay is told still. -/
structure Ext (c : Ctx) (m : Map) (H : Heap) (F : List Nat) (w : World) (m' : Map) (H' : Heap) (F' : List Nat) (w' : World) : Prop where
  mm : MLe m m'
  kk : ∀ β C e z, okB c.X m H F β → w.heap[β]? = some (.cells C e z) → okB c.X m' H' F' β ∧ w'.heap[β]? = some (.cells C e z)

omit [Syms] in
theorem Ext.refl (c : Ctx) (m : Map) (H : Heap) (F : List Nat) (w : World) : Ext c m H F w m H F w := ⟨MLe.refl _, fun _ _ _ _ h k => ⟨h, k⟩⟩

omit [Syms] in
theorem Ext.trans {c : Ctx} {m m1 m2 : Map} {H H1 H2 : Heap} {F F1 F2 : List Nat} {w w1 w2 : World} (h : Ext c m H F w m1 H1 F1 w1) (k : Ext c m1 H1 F1 w1 m2 H2 F2 w2) :
    Ext c m H F w m2 H2 F2 w2 :=
  ⟨h.mm.trans k.mm, fun β C e z ho hh => let ⟨a, b⟩ := h.kk β C e z ho hh; k.kk β C e z a b⟩

theorem Ext.vr {c : Ctx} {m m' : Map} {H H' : Heap} {F F' : List Nat} {w w' : World} (h : Ext c m H F w m' H' F' w') {a : AV} {v : Value} (hr : VR (okB c.X m H F) w.heap m a v) :
    VR (okB c.X m' H' F') w'.heap m' a v := hr.mono h.kk h.mm

def upd (m : Map) (b : Nat) (L : Loc) : Map := fun x => if x = b then some L else m x

omit [Syms] in
theorem upd_same (m : Map) (b : Nat) (L : Loc) : upd m b L b = some L := by simp [upd]
omit [Syms] in
theorem upd_ne (m : Map) {b x : Nat} (L : Loc) (h : x ≠ b) : upd m b L x = m x := by simp [upd, h]
omit [Syms] in
theorem upd_le {m : Map} {b : Nat} (L : Loc) (h : m b = none) : MLe m (upd m b L) := by
  intro x L' hx
  have : x ≠ b := fun e => by rw [e, h] at hx; cases hx
  rw [upd_ne m L this, hx]

section
variable {c : Ctx} {m : Map} {H : Heap} {F : List Nat} {w : World}

/-- The world but for its rows of memory. -/
structure Alike (w w' : World) : Prop where
  os : w'.os = w.os
  tape : w'.tape = w.tape
  output : w'.output = w.output

/-- A new number for a new row. -/
theorem SR.new (hs : SR c m H F w) {id : Nat} (hid : m id = none) {w' : World} (ha : Alike w w') (hsz : w'.heap.size = w.heap.size + 1)
    (hold : ∀ β, β < w.heap.size → w'.heap[β]? = w.heap[β]?) {L : Loc} (hL : L.blk = w.heap.size) {o : AObj} :
    Ext c m H F w (upd m id L) (hset H id o) F w' ∧
    (ObjR (okB c.X (upd m id L) (hset H id o) F) w'.heap (upd m id L) L o → SR c (upd m id L) (hset H id o) F w') := by
  have hx : Ext c m H F w (upd m id L) (hset H id o) F w' := by
    refine ⟨upd_le L hid, fun β C e z ho hh => ⟨⟨ho.1, fun b o' L' hb hf hm => ?_⟩, by rw [hold β (lt_of_some hh)]; exact hh⟩⟩
    rw [hget_hset] at hb
    by_cases e1 : id = b
    · subst e1
      rw [upd_same] at hm; cases hm
      rw [hL]
      exact Nat.ne_of_gt (lt_of_some hh)
    · rw [if_neg e1] at hb
      rw [upd_ne m L (fun e => e1 e.symm)] at hm
      exact ho.2 b o' L' hb hf hm
  refine ⟨hx, fun hobj => ⟨hs.xlt, fun b o' hb => ?_, fun b o1 b' o2 L1 L2 h1 h2 h3 h4 h5 => ?_, fun b o' L' hb hm => ?_, fun b o' L' hb hm => ?_, ?_⟩⟩
  · rw [hget_hset] at hb
    by_cases e1 : id = b
    · subst e1
      rw [if_pos rfl] at hb; cases hb
      exact .inl ⟨L, upd_same _ _ _, hobj⟩
    · rw [if_neg e1] at hb
      rcases hs.all b o' hb with ⟨L', h1, h2⟩ | ⟨h1, h2⟩
      · exact .inl ⟨L', by rw [upd_ne m L (fun e => e1 e.symm)]; exact h1, ObjR.mono h2 hx.kk hx.mm (hold _ (ObjR.lt h2))⟩
      · exact .inr ⟨by rw [upd_ne m L (fun e => e1 e.symm)]; exact h1, h2⟩
  · rw [hget_hset] at h1 h2
    by_cases e1 : id = b
    · by_cases e2 : id = b'
      · exact e1.symm.trans e2
      · rw [if_neg e2] at h2
        subst e1
        rw [upd_same] at h3; cases h3
        rw [upd_ne m L (fun e => e2 e.symm)] at h4
        have := hs.blt h2 h4
        omega
    · rw [if_neg e1] at h1
      rw [upd_ne m L (fun e => e1 e.symm)] at h3
      by_cases e2 : id = b'
      · subst e2
        rw [upd_same] at h4; cases h4
        have := hs.blt h1 h3
        omega
      · rw [if_neg e2] at h2
        rw [upd_ne m L (fun e => e2 e.symm)] at h4
        exact hs.inj b o1 b' o2 L1 L2 h1 h2 h3 h4 h5
  · rw [hget_hset] at hb
    by_cases e1 : id = b
    · subst e1
      rw [upd_same] at hm; cases hm
      intro hX
      have := hs.xlt _ hX
      have := hs.keep.size
      omega
    · rw [if_neg e1] at hb
      rw [upd_ne m L (fun e => e1 e.symm)] at hm
      exact hs.nox b o' L' hb hm
  · rw [hget_hset] at hb
    by_cases e1 : id = b
    · subst e1
      rw [upd_same] at hm; cases hm
      right; rw [hL]; exact hs.keep.size
    · rw [if_neg e1] at hb
      rw [upd_ne m L (fun e => e1 e.symm)] at hm
      exact hs.own b o' L' hb hm
  · have hk := hs.keep
    exact ⟨ha.os.trans hk.os, ha.tape.trans hk.tape, ha.output.trans hk.output, by have := hk.size; omega, fun β hb ho => by
      rw [hold β (by have := hk.size; omega)]; exact hk.block β hb ho⟩

/-- A row that is one's own is written. -/
theorem SR.write (hs : SR c m H F w) {b : Nat} {o o' : AObj} (hb : hget H b = some o) (hf : b ∉ F) {L : Loc} (hm : m b = some L) {w' : World} (ha : Alike w w') (hsz : w'.heap.size = w.heap.size)
    (hold : ∀ β, β ≠ L.blk → w'.heap[β]? = w.heap[β]?) :
    Ext c m H F w m (hset H b o') F w' ∧ (ObjR (okB c.X m (hset H b o') F) w'.heap m L o' → SR c m (hset H b o') F w') := by
  have hx : Ext c m H F w m (hset H b o') F w' := by
    refine ⟨MLe.refl m, fun β C e z ho hh => ⟨⟨ho.1, fun b1 o1 L1 hb1 hf1 hm1 => ?_⟩, by rw [hold β (fun e => ho.2 b o L hb hf hm e.symm)]; exact hh⟩⟩
    rw [hget_hset] at hb1
    by_cases e1 : b = b1
    · subst e1; rw [hm] at hm1; cases hm1; exact ho.2 b o L hb hf hm
    · rw [if_neg e1] at hb1; exact ho.2 b1 o1 L1 hb1 hf1 hm1
  have back : ∀ {x : Nat} {y : AObj}, hget (hset H b o') x = some y → ∃ y', hget H x = some y' := by
    intro x y hy
    rw [hget_hset] at hy
    by_cases e1 : b = x
    · subst e1; exact ⟨o, hb⟩
    · rw [if_neg e1] at hy; exact ⟨y, hy⟩
  refine ⟨hx, fun hobj => ⟨hs.xlt, fun b1 o1 hb1 => ?_, fun b1 o1 b2 o2 L1 L2 h1 h2 h3 h4 h5 => ?_, fun b1 o1 L1 hb1 hm1 => ?_, fun b1 o1 L1 hb1 hm1 => ?_, ?_⟩⟩
  · have hb1' := hb1
    rw [hget_hset] at hb1
    by_cases e1 : b = b1
    · subst e1
      rw [if_pos rfl] at hb1; cases hb1
      exact .inl ⟨L, hm, hobj⟩
    · rw [if_neg e1] at hb1
      rcases hs.all b1 o1 hb1 with ⟨L', h1, h2⟩ | h1
      · refine .inl ⟨L', h1, ObjR.mono h2 hx.kk hx.mm (hold _ fun e => e1 ?_)⟩
        exact hs.inj b o b1 o1 L L' hb hb1 hm h1 e.symm
      · exact .inr h1
  · obtain ⟨y1, k1⟩ := back h1
    obtain ⟨y2, k2⟩ := back h2
    exact hs.inj b1 y1 b2 y2 L1 L2 k1 k2 h3 h4 h5
  · obtain ⟨y1, k1⟩ := back hb1
    exact hs.nox b1 y1 L1 k1 hm1
  · obtain ⟨y1, k1⟩ := back hb1
    exact hs.own b1 y1 L1 k1 hm1
  · have hk := hs.keep
    refine ⟨ha.os.trans hk.os, ha.tape.trans hk.tape, ha.output.trans hk.output, by have := hk.size; omega, fun β hb' ho => ?_⟩
    rw [hold β fun e => ?_]
    · exact hk.block β hb' ho
    · rcases hs.own b o L hb hm with h | h
      · rw [← e] at h; exact ho h
      · omega

/-- A number is given up. -/
theorem SR.del (hs : SR c m H F w) (b : Nat) : Ext c m H F w m (hdel H b) F w ∧ SR c m (hdel H b) F w := by
  have back : ∀ {x : Nat} {y : AObj}, hget (hdel H b) x = some y → hget H x = some y := by
    intro x y hy
    rw [hget_hdel] at hy
    by_cases e1 : b = x
    · rw [if_pos e1] at hy; cases hy
    · rw [if_neg e1] at hy; exact hy
  have hx : Ext c m H F w m (hdel H b) F w :=
    ⟨MLe.refl m, fun β C e z ho hh => ⟨⟨ho.1, fun b1 o1 L1 hb1 hf1 hm1 => ho.2 b1 o1 L1 (back hb1) hf1 hm1⟩, hh⟩⟩
  exact ⟨hx, hs.xlt, fun b1 o1 hb1 => (hs.all b1 o1 (back hb1)).imp (fun ⟨L, h1, h2⟩ => ⟨L, h1, ObjR.mono h2 hx.kk hx.mm rfl⟩) id,
    fun b1 o1 b2 o2 L1 L2 h1 h2 h3 h4 h5 => hs.inj b1 o1 b2 o2 L1 L2 (back h1) (back h2) h3 h4 h5,
    fun b1 o1 L1 h1 h2 => hs.nox b1 o1 L1 (back h1) h2, fun b1 o1 L1 h1 h2 => hs.own b1 o1 L1 (back h1) h2, hs.keep⟩

/-- A row of data that may be none is told under a new number. -/
theorem SR.void (hs : SR c m H F w) {id : Nat} (hid : m id = none) (t : GT) : Ext c m H F w m (hset H id (.tarr t [])) F w ∧ SR c m (hset H id (.tarr t [])) F w := by
  have back : ∀ {x : Nat} {y : AObj} {L : Loc}, hget (hset H id (.tarr t [])) x = some y → m x = some L → hget H x = some y := by
    intro x y L hy hx
    rw [hget_hset] at hy
    by_cases e1 : id = x
    · subst e1; rw [hid] at hx; cases hx
    · rw [if_neg e1] at hy; exact hy
  have hx : Ext c m H F w m (hset H id (.tarr t [])) F w :=
    ⟨MLe.refl m, fun β C e z ho hh => ⟨⟨ho.1, fun b1 o1 L1 hb1 hf1 hm1 => ho.2 b1 o1 L1 (back hb1 hm1) hf1 hm1⟩, hh⟩⟩
  refine ⟨hx, hs.xlt, fun b1 o1 hb1 => ?_, fun b1 o1 b2 o2 L1 L2 h1 h2 h3 h4 h5 => hs.inj b1 o1 b2 o2 L1 L2 (back h1 h3) (back h2 h4) h3 h4 h5,
    fun b1 o1 L1 h1 h2 => hs.nox b1 o1 L1 (back h1 h2) h2, fun b1 o1 L1 h1 h2 => hs.own b1 o1 L1 (back h1 h2) h2, hs.keep⟩
  rw [hget_hset] at hb1
  by_cases e1 : id = b1
  · subst e1
    rw [if_pos rfl] at hb1; cases hb1
    exact .inr ⟨hid, .inl ⟨t, rfl⟩⟩
  · rw [if_neg e1] at hb1
    exact (hs.all b1 o1 hb1).imp (fun ⟨L, h1, h2⟩ => ⟨L, h1, ObjR.mono h2 hx.kk hx.mm rfl⟩) (fun h => h)

/-- A row is told under a new number, and no more under the old one. -/
theorem SR.rename (hs : SR c m H F w) {b id : Nat} {o : AObj} {L : Loc} (hb : hget H b = some o) (hf : b ∉ F) (hm : m b = some L) (hid : m id = none) :
    Ext c m H F w (upd m id L) (hset (hdel H b) id o) F w ∧ SR c (upd m id L) (hset (hdel H b) id o) F w := by
  have hne : id ≠ b := fun e => by rw [e, hm] at hid; cases hid
  have back : ∀ {x : Nat} {y : AObj} {L1 : Loc}, hget (hset (hdel H b) id o) x = some y → upd m id L x = some L1 → ∃ x', hget H x' = some y ∧ m x' = some L1 ∧ (x = id → x' = b) ∧ (x ≠ id → x' = x) ∧ x' ≠ id := by
    intro x y L1 hy hx
    rw [hget_hset] at hy
    by_cases e1 : id = x
    · subst e1
      rw [if_pos rfl] at hy; cases hy
      rw [upd_same] at hx; cases hx
      exact ⟨b, hb, hm, fun _ => rfl, fun h => absurd rfl h, fun e => hne e.symm⟩
    · rw [if_neg e1, hget_hdel] at hy
      rw [upd_ne m L (fun e => e1 e.symm)] at hx
      by_cases e2 : b = x
      · rw [if_pos e2] at hy; cases hy
      · rw [if_neg e2] at hy
        exact ⟨x, hy, hx, fun e => absurd e.symm e1, fun _ => rfl, fun e => e1 e.symm⟩
  have hx : Ext c m H F w (upd m id L) (hset (hdel H b) id o) F w := by
    refine ⟨upd_le L hid, fun β C e z ho hh => ⟨⟨ho.1, fun b1 o1 L1 hb1 hf1 hm1 => ?_⟩, hh⟩⟩
    obtain ⟨x', k1, k2, k3, k4, _⟩ := back hb1 hm1
    by_cases e : b1 = id
    · rw [k3 e] at k1 k2; exact ho.2 b o1 L1 k1 hf k2
    · rw [k4 e] at k1 k2; exact ho.2 b1 o1 L1 k1 hf1 k2
  refine ⟨hx, hs.xlt, fun b1 o1 hb1 => ?_, fun b1 o1 b2 o2 L1 L2 h1 h2 h3 h4 h5 => ?_,
    fun b1 o1 L1 h1 h2 => ?_, fun b1 o1 L1 h1 h2 => ?_, hs.keep⟩
  · rw [hget_hset] at hb1
    by_cases e1 : id = b1
    · subst e1
      rw [if_pos rfl] at hb1; cases hb1
      exact .inl ⟨L, upd_same _ _ _, ObjR.mono (hs.objm hb hm) hx.kk hx.mm rfl⟩
    · rw [if_neg e1, hget_hdel] at hb1
      by_cases e2 : b = b1
      · rw [if_pos e2] at hb1; cases hb1
      · rw [if_neg e2] at hb1
        rw [upd_ne m L (fun e => e1 e.symm)]
        exact (hs.all b1 o1 hb1).imp (fun ⟨L, h1, h2⟩ => ⟨L, h1, ObjR.mono h2 hx.kk hx.mm rfl⟩) (fun h => h)
  · obtain ⟨x1, k1, k2, k3, k4, _⟩ := back h1 h3
    obtain ⟨x2, q1, q2, q3, q4, _⟩ := back h2 h4
    have e := hs.inj x1 o1 x2 o2 L1 L2 k1 q1 k2 q2 h5
    have gone : ∀ {x : Nat} {y : AObj}, hget (hset (hdel H b) id o) x = some y → x ≠ id → x ≠ b := fun {x y} hy hx0 e0 => by
      rw [hget_hset, if_neg (fun e => hx0 e.symm), hget_hdel, if_pos e0.symm] at hy; cases hy
    by_cases e1 : b1 = id
    · by_cases e2 : b2 = id
      · rw [e1, e2]
      · rw [k3 e1, q4 e2] at e
        exact absurd e.symm (gone h2 e2)
    · by_cases e2 : b2 = id
      · rw [k4 e1, q3 e2] at e
        exact absurd e (gone h1 e1)
      · rw [k4 e1, q4 e2] at e; exact e
  · obtain ⟨x1, k1, k2, _⟩ := back h1 h2
    exact hs.nox x1 o1 L1 k1 k2
  · obtain ⟨x1, k1, k2, _⟩ := back h1 h2
    exact hs.own x1 o1 L1 k1 k2

/-- Numbers are written no more. -/
theorem SR.freeze (hs : SR c m H F w) (is : List Nat) : Ext c m H F w m H (is ++ F) w ∧ SR c m H (is ++ F) w := by
  have hx : Ext c m H F w m H (is ++ F) w :=
    ⟨MLe.refl m, fun β C e z ho hh => ⟨⟨ho.1, fun b1 o1 L1 hb1 hf1 hm1 => ho.2 b1 o1 L1 hb1 (fun h => hf1 (List.mem_append.2 (.inr h))) hm1⟩, hh⟩⟩
  exact ⟨hx, hs.xlt, fun b1 o1 hb1 => (hs.all b1 o1 hb1).imp (fun ⟨L, h1, h2⟩ => ⟨L, h1, ObjR.mono h2 hx.kk hx.mm rfl⟩) id, hs.inj, hs.nox, hs.own, hs.keep⟩

/-- Nothing but the streams' counts has turned. -/
theorem SR.still (hs : SR c m H F w) {w' : World} (ha : Alike w w') (hh : w'.heap = w.heap) : Ext c m H F w m H F w' ∧ SR c m H F w' := by
  have hx : Ext c m H F w m H F w' := ⟨MLe.refl m, fun β C e z ho hk => ⟨ho, by rw [hh]; exact hk⟩⟩
  exact ⟨hx, hs.xlt, fun b1 o1 hb1 => (hs.all b1 o1 hb1).imp (fun ⟨L, h1, h2⟩ => ⟨L, h1, ObjR.mono h2 hx.kk hx.mm (by rw [hh])⟩) id, hs.inj, hs.nox, hs.own,
    ⟨ha.os.trans hs.keep.os, ha.tape.trans hs.keep.tape, ha.output.trans hs.keep.output, by rw [hh]; exact hs.keep.size, fun β h1 h2 => by rw [hh]; exact hs.keep.block β h1 h2⟩⟩

end
end Go.Proofs.YtopkeglpafdlfaaGreat.VS
