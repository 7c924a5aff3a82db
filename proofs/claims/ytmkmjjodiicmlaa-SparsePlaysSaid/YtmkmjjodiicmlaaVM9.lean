/- A library of an abstract machine, joined from 1 texts. Conditions: none. -/
import Derived.Test.YtmkmjjodiicmlaaVM8
set_option linter.unusedVariables false
set_option linter.unusedSimpArgs false
set_option linter.unusedSectionVars false
/- Rows whose elements' rows are one's own: what is appended to them, stored in them, taken out of them. Conditions: none. -/
namespace Go.Proofs.Ytmkmjjodiicmlaa.VS
variable [Syms]

section
variable {P : Program} {T : Tabs} {c : Ctx} {m : Map} {H : Heap} {F : List Nat} {w : World}

/-- A row that one may write, under its number. -/
def OwnB (m : Map) (H : Heap) (F : List Nat) (β : Nat) : Prop := ∃ b o L, hget H b = some o ∧ b ∉ F ∧ m b = some L ∧ fp o L β

/-- One number is told anew; others are as they were, or told less of. -/
theorem SR.remake (hs : SR c m H F w) {id : Nat} (hid : m id = none) {m' : Map} {H' : Heap} {w' : World} (hm' : m' = m ∨ ∃ L', m' = upd m id L') (ha : Alike w w') (hsz : w.heap.size ≤ w'.heap.size)
    (W : Nat → Prop) (hold : ∀ β, β < w.heap.size → ¬ W β → w'.heap[β]? = w.heap[β]?) (hW : ∀ β, W β → OwnB m H F β)
    (hH' : ∀ x o, x ≠ id → hget H' x = some o → ∃ o0, hget H x = some o0 ∧ (∀ L β, fp o L β → fp o0 L β) ∧ (∀ ok hh mm L, ObjR ok hh mm L o0 → ObjR ok hh mm L o) ∧ (Void o0 → Void o) ∧
      ∀ L β, m x = some L → fp o L β → ¬ W β ∧ ∀ oi Li, hget H' id = some oi → m' id = some Li → ¬ fp oi Li β)
    (hI : ∀ oi, hget H' id = some oi → (∃ L, m' id = some L ∧ ObjR (okB c.X m' H' F) w'.heap m' L oi ∧ ∀ β, fp oi L β → w.heap.size ≤ β ∨ OwnB m H F β) ∨ (m' id = none ∧ Void oi)) (hidF : id ∉ F) :
    Ext c m H F w m' H' F w' ∧ SR c m' H' F w' := by
  have mat : ∀ x, x ≠ id → m' x = m x := fun x hx => by
    rcases hm' with rfl | ⟨L', rfl⟩
    · rfl
    · exact upd_ne m L' hx
  have hle : MLe m m' := fun b L hb => by
    rw [mat b fun e => by rw [e, hid] at hb; cases hb]; exact hb
  -- what the new number's rows are
  have fpI : ∀ oi Li β, hget H' id = some oi → m' id = some Li → fp oi Li β → w.heap.size ≤ β ∨ OwnB m H F β := fun oi Li β h1 h2 h3 => by
    rcases hI oi h1 with ⟨L, k1, _, k2⟩ | ⟨k1, _⟩
    · rw [h2] at k1; cases k1; exact k2 β h3
    · rw [h2] at k1; cases k1
  have hx : Ext c m H F w m' H' F w' := by
    refine ⟨hle, fun β C e z ho hh => ⟨⟨ho.1, fun x o L hx hF hm hf => ?_⟩, ?_⟩⟩
    · by_cases e : x = id
      · subst e
        rcases fpI o L β hx hm hf with h | ⟨b, o', L', h1, h2, h3, h4⟩
        · have := lt_of_some hh; omega
        · exact ho.2 b o' L' h1 h2 h3 h4
      · obtain ⟨o0, h1, h2, _⟩ := hH' x o e hx
        rw [mat x e] at hm
        exact ho.2 x o0 L h1 hF hm (h2 L β hf)
    · rw [hold β (lt_of_some hh) fun h => ?_]
      · exact hh
      · obtain ⟨b, o', L', h1, h2, h3, h4⟩ := hW β h
        exact ho.2 b o' L' h1 h2 h3 h4
  refine ⟨hx, hs.xlt, fun x o h => ?_, fun x1 o1 x2 o2 L1 L2 β h1 h2 h3 h4 h5 h6 => ?_, fun x o L β h1 h2 h3 => ?_, fun x o L β h1 h2 h3 => ?_, ?_⟩
  · by_cases e : x = id
    · subst e
      exact (hI o h).imp (fun ⟨L, k1, k2, _⟩ => ⟨L, k1, k2⟩) fun h => h
    · obtain ⟨o0, h1, h2, h3, h4, h5⟩ := hH' x o e h
      rw [mat x e]
      refine (hs.all x o0 h1).imp (fun ⟨L, k1, k2⟩ => ⟨L, k1, ObjR.mono (h3 _ _ _ _ k2) hx.kk hx.mm fun β hβ => hold β (hs.fplt h1 k1 (h2 L β hβ)) (h5 L β k1 hβ).1⟩) fun ⟨k1, k2⟩ => ⟨k1, h4 k2⟩
  · by_cases e1 : x1 = id
    · by_cases e2 : x2 = id
      · rw [e1, e2]
      · subst e1
        obtain ⟨_, _, _, _, _, k⟩ := hH' x2 o2 e2 h2
        rw [mat x2 e2] at h4
        exact ((k L2 β h4 h6).2 o1 L1 h1 h3 h5).elim
    · by_cases e2 : x2 = id
      · subst e2
        obtain ⟨_, _, _, _, _, k⟩ := hH' x1 o1 e1 h1
        rw [mat x1 e1] at h3
        exact ((k L1 β h3 h5).2 o2 L2 h2 h4 h6).elim
      · obtain ⟨p1, k1, k2, _⟩ := hH' x1 o1 e1 h1
        obtain ⟨p2, q1, q2, _⟩ := hH' x2 o2 e2 h2
        rw [mat x1 e1] at h3
        rw [mat x2 e2] at h4
        exact hs.injf x1 p1 x2 p2 L1 L2 β k1 q1 h3 h4 (k2 L1 β h5) (q2 L2 β h6)
  · by_cases e : x = id
    · subst e
      rcases fpI o L β h1 h2 h3 with h | ⟨b, o', L', k1, k2, k3, k4⟩
      · intro hX
        have := hs.xlt _ hX; have := hs.keep.size; omega
      · exact hs.noxf b o' L' β k1 k3 k4
    · obtain ⟨o0, k1, k2, _⟩ := hH' x o e h1
      rw [mat x e] at h2
      exact hs.noxf x o0 L β k1 h2 (k2 L β h3)
  · by_cases e : x = id
    · subst e
      rcases fpI o L β h1 h2 h3 with h | ⟨b, o', L', k1, k2, k3, k4⟩
      · have := hs.keep.size; exact .inr (by omega)
      · exact hs.ownf b o' L' β k1 k3 k4
    · obtain ⟨o0, k1, k2, _⟩ := hH' x o e h1
      rw [mat x e] at h2
      exact hs.ownf x o0 L β k1 h2 (k2 L β h3)
  · have k := hs.keep
    refine ⟨ha.os.trans k.os, ha.tape.trans k.tape, ha.output.trans k.output, Nat.le_trans k.size hsz, fun β h1 h3 => ?_⟩
    rw [hold β (Nat.lt_of_lt_of_le h1 k.size) fun h => ?_]
    · exact k.block β h1 h3
    · obtain ⟨b, o', L', k1, k2, k3, k4⟩ := hW β h
      rcases hs.ownf b o' L' β k1 k3 k4 with h | h
      · exact h3 h
      · omega

omit [Syms] in
theorem SubR.keep {h h' : Array Obj} {d : List UInt8} {v : Value} {o : Option Sub} (hs : SubR h d v o) (hk : ∀ S, o = some S → h'[S.blk]? = h[S.blk]?) : SubR h' d v o := by
  cases o with
  | none => exact hs
  | some S =>
    obtain ⟨h1, h2, C, e, z, h3, h4⟩ := hs
    exact ⟨h1, h2, C, e, z, by rw [hk S rfl]; exact h3, h4⟩

omit [Syms] in
theorem SubR.lt {h : Array Obj} {d : List UInt8} {v : Value} {S : Sub} (hs : SubR h d v (some S)) : S.blk < h.size := by
  obtain ⟨_, _, C, e, z, h3, _⟩ := hs
  exact lt_of_some h3

/-- An append to a row whose elements' rows are one's own. -/
theorem sim_dapp (hs : SR c m H F w) {id : Nat} (hid : m id = none) (hidF : id ∉ F) {ts : Array TypeId} {ty : TypeId} {vx : Value} {by_ : Nat} {Y : List AV} {Hx : Heap} (A : App P T c m Hx F w ts ty vx 2 by_ Y)
    {xs ys : List Blk} {ob : Option Nat} {vs : Value} (hob : ∀ b, ob = some b → hget H b = some (.deep xs 0) ∧ b ∉ F)
    (hvs : (xs = [] ∧ ∃ a, vs = .slice a 0 0) ∨ ∃ b L cp, ob = some b ∧ m b = some L ∧ vs = .slice (some ⟨L.blk, L.off, none⟩) xs.length cp ∧ L.ext ≤ cp ∧ L.off + cp * 2 ≤ L.csz)
    (hroom : room (xs.length + Y.length) by_ = true) (hYl : Y.length = ys.length) {bk : Nat → Option Nat}
    (hY : ∀ (j : Nat) (y : Blk), ys[j]? = some y → ∃ X, Y[j]? = some (.agg [.int .i64 y.pos, X]) ∧ ∀ v, VR (okB c.X m Hx F) w.heap m X v → ∃ o, SubR w.heap y.data v o ∧ ∀ S, o = some S → bk j = some S.blk)
    (hbk : ∀ j β, j < ys.length → bk j = some β → ∃ x ox Lx, ob ≠ some x ∧ hget H x = some ox ∧ x ∉ F ∧ m x = some Lx ∧ fp ox Lx β)
    (hbki : ∀ i j β, i < ys.length → j < ys.length → bk i = some β → bk j = some β → i = j)
    {H' : Heap} (hHi : hget H' id = some (.deep (xs ++ ys) 0))
    (hH' : ∀ x o, x ≠ id → hget H' x = some o → ob ≠ some x ∧ ∃ o0, hget H x = some o0 ∧ (∀ L β, fp o L β → fp o0 L β) ∧ (∀ ok hh mm L, ObjR ok hh mm L o0 → ObjR ok hh mm L o) ∧ (Void o0 → Void o) ∧ ∀ L β, m x = some L → fp o L β → ∀ j, j < ys.length → bk j ≠ some β) :
    ∃ cv m' w', (Builtin.append_ ts ty #[vs, vx]).run P w = .ok cv w' ∧ Ext c m H F w m' H' F w' ∧ SR c m' H' F w' ∧ VR (okB c.X m' H' F) w'.heap m' (.gs .blk id (xs ++ ys).length) cv ∧
      ∀ b, m' b ≠ none → m b ≠ none ∨ (id ≤ b ∧ b < id + STRIDE) := by
  classical
  obtain ⟨new, n1, n2, n3, n4⟩ := A.new
  have hn1 := A.ones_new n1 n2
  have hYl' : ∀ u ∈ Y, u.cells.length = 2 := A.sz
  have hlen : (xs ++ ys).length = xs.length + Y.length := by rw [List.length_append, hYl]
  -- what is appended, as cells
  have hnew : ∀ (j : Nat) (y : Blk), ys[j]? = some y → new[j * 2]? = some (.int .i64 y.pos) ∧ ∃ v, new[j * 2 + 1]? = some v ∧ ∃ o, SubR w.heap y.data v o ∧ ∀ S, o = some S → bk j = some S.blk := by
    intro j y hy
    obtain ⟨X, h1, h2⟩ := hY j y hy
    have k0 := flat_getElem? hYl' h1 (j := 0) (by omega)
    have k1 := flat_getElem? hYl' h1 (j := 1) (by omega)
    obtain ⟨u0, q0, r0⟩ := n2 _ _ k0
    obtain ⟨u1, q1, r1⟩ := n2 _ _ k1
    rw [Nat.zero_add, Nat.add_zero] at q0
    rw [Nat.zero_add] at q1
    obtain ⟨o, z1, z2⟩ := h2 u1 r1
    refine ⟨?_, u1, q1, o, z1, z2⟩
    have r0 : VR (okB c.X m Hx F) w.heap m (.int .i64 y.pos) u0 := r0
    rw [q0, r0.int_inv]
  -- where their rows lie
  have hch : ∃ so : Nat → Option Sub, ∀ (j : Nat) (y : Blk), ys[j]? = some y → ∃ v, new[j * 2 + 1]? = some v ∧ SubR w.heap y.data v (so j) ∧ ∀ S, so j = some S → bk j = some S.blk := by
    refine ⟨fun j => if h : ∃ o : Option Sub, ∃ y v, ys[j]? = some y ∧ new[j * 2 + 1]? = some v ∧ SubR w.heap y.data v o ∧ ∀ S, o = some S → bk j = some S.blk then h.choose else none, fun j y hy => ?_⟩
    have h : ∃ o : Option Sub, ∃ y v, ys[j]? = some y ∧ new[j * 2 + 1]? = some v ∧ SubR w.heap y.data v o ∧ ∀ S, o = some S → bk j = some S.blk := by
      obtain ⟨_, v, k1, o, k2, k3⟩ := hnew j y hy
      exact ⟨o, y, v, hy, k1, k2, k3⟩
    simp only [dif_pos h]
    obtain ⟨y', v, k1, k2, k3, k4⟩ := h.choose_spec
    rw [hy] at k1; cases k1
    exact ⟨v, k2, k3, k4⟩
  obtain ⟨so, hso⟩ := hch
  -- the new row, at whatever place
  have fin : ∀ (L' : Loc) (w' : World) (W : Nat → Prop) (sb : Nat → Option Sub) (C' : Array Value) (e' : TypeId) (z' : Nat × Nat) (cv : Value) (cap : Nat), L'.subs = (fun i => if i < xs.length then sb i else so (i - xs.length)) → L'.sz = 2 → L'.ext = xs.length + Y.length →
      w'.heap[L'.blk]? = some (.cells C' e' z') → C'.size = L'.csz → NoFz 2 C' z' → L'.off + (xs.length + Y.length) * 2 ≤ C'.size → (∀ j, j < Y.length * 2 → C'[L'.off + xs.length * 2 + j]? = new[j]?) →
      (∀ (i : Nat) (x : Blk), xs[i]? = some x → C'[L'.off + i * 2]? = some (.int .i64 x.pos) ∧ ∃ v, C'[L'.off + i * 2 + 1]? = some v ∧ SubR w.heap x.data v (sb i)) →
      Alike w w' → w.heap.size ≤ w'.heap.size → (∀ β, β < w.heap.size → ¬ W β → w'.heap[β]? = w.heap[β]?) → (∀ β, W β → ∃ b o L, ob = some b ∧ hget H b = some o ∧ m b = some L ∧ fp o L β ∧ L.blk = β) →
      (L'.blk = w.heap.size ∨ ∃ b o L, ob = some b ∧ hget H b = some o ∧ m b = some L ∧ L.blk = L'.blk) →
      (∀ i S, i < xs.length → sb i = some S → ∃ b o L, ob = some b ∧ hget H b = some o ∧ m b = some L ∧ fp o L S.blk ∧ S.blk ≠ L.blk) →
      (∀ i j S S', i < xs.length → j < xs.length → sb i = some S → sb j = some S' → S.blk = S'.blk → i = j) →
      cv = .slice (some ⟨L'.blk, L'.off, none⟩) (xs.length + Y.length) cap → xs.length + Y.length ≤ cap → L'.off + cap * 2 ≤ C'.size →
      Ext c m H F w (upd m id L') H' F w' ∧ SR c (upd m id L') H' F w' ∧ VR (okB c.X (upd m id L') H' F) w'.heap (upd m id L') (.gs .blk id (xs ++ ys).length) cv := by
    intro L' w' W sb C' e' z' cv cap hsub hsz2 hext hC' hCs hz' hle hnw hold0 hal hsz hold hW hblk hsbo hsbi hcv hcap hcapc
    have own : ∀ b, ob = some b → hget H b = some (.deep xs 0) ∧ b ∉ F := hob
    have hne : ∀ x o L b o' L' β, ob ≠ some x → hget H x = some o → m x = some L → fp o L β → ob = some b → hget H b = some o' → m b = some L' → fp o' L' β → False := fun x o L b o' L' β h1 h2 h3 h4 h5 h6 h7 h8 => by
      have := hs.injf x o b o' L L' β h2 h6 h3 h7 h4 h8
      subst this
      exact h1 h5
    -- blocks of the new row's elements
    have subI : ∀ i S, i < xs.length + ys.length → L'.subs i = some S → (i < xs.length ∧ sb i = some S) ∨ (xs.length ≤ i ∧ bk (i - xs.length) = some S.blk ∧ so (i - xs.length) = some S) := fun i S hi h => by
      rw [hsub] at h
      by_cases e : i < xs.length
      · simp only [if_pos e] at h; exact .inl ⟨e, h⟩
      · simp only [if_neg e] at h
        have hj : i - xs.length < ys.length := by omega
        obtain ⟨v, _, _, k⟩ := hso (i - xs.length) ys[i - xs.length] (List.getElem?_eq_getElem hj)
        exact .inr ⟨by omega, k S h, h⟩
    have subLt : ∀ i S, i < xs.length + ys.length → L'.subs i = some S → OwnB m H F S.blk ∧ S.blk ≠ L'.blk ∧ ¬ W S.blk ∧ S.blk < w.heap.size := fun i S hi h => by
      rcases subI i S hi h with ⟨h1, h2⟩ | ⟨h1, h2, h2'⟩
      · obtain ⟨b, o, L, k1, k2, k3, k4, k5⟩ := hsbo i S h1 h2
        have hlt := hs.fplt k2 k3 k4
        refine ⟨⟨b, o, L, k2, (own b k1).2, k3, k4⟩, ?_, fun hw => ?_, hlt⟩
        · rcases hblk with h | ⟨b', o', L2, q1, q2, q3, q4⟩
          · omega
          · rw [k1] at q1; cases q1
            rw [k3] at q3; cases q3
            rw [← q4]; exact k5
        · obtain ⟨b', o', L2, q1, q2, q3, q4, q5⟩ := hW _ hw
          rw [k1] at q1; cases q1
          rw [k3] at q3; cases q3
          exact k5 q5.symm
      · obtain ⟨x, ox, Lx, k1, k2, k3, k4, k5⟩ := hbk _ _ (by omega) h2
        have hlt := hs.fplt k2 k4 k5
        refine ⟨⟨x, ox, Lx, k2, k3, k4, k5⟩, ?_, fun hw => ?_, hlt⟩
        · rcases hblk with h | ⟨b', o', L2, q1, q2, q3, q4⟩
          · omega
          · intro e
            exact hne x ox Lx b' o' L2 S.blk k1 k2 k4 k5 q1 q2 q3 (.inl (by rw [q4, e]))
        · obtain ⟨b', o', L2, q1, q2, q3, q4, q5⟩ := hW _ hw
          exact hne x ox Lx b' o' L2 S.blk k1 k2 k4 k5 q1 q2 q3 q4
    have hdeep : DeepR w'.heap L' (xs ++ ys) 0 := by
      refine ⟨⟨hsz2, by rw [hext, hlen]⟩, ⟨C', e', z', hC', hCs, hz', by rw [hlen]; exact hle, fun i x hx _ => ?_⟩, fun i S _ hi h => (subLt i S (by rw [List.length_append] at hi; exact hi) h).2.1, fun i j S S' _ _ hi hj h1 h2 he => ?_⟩
      · have hi := (List.getElem?_eq_some_iff.1 hx).1
        rw [List.length_append] at hi
        have keepS : ∀ d v, SubR w.heap d v (L'.subs i) → SubR w'.heap d v (L'.subs i) := fun d v h => h.keep fun S hS => hold _ (subLt i S hi hS).2.2.2 (subLt i S hi hS).2.2.1
        by_cases e : i < xs.length
        · rw [List.getElem?_append_left e] at hx
          obtain ⟨k1, v, k2, k3⟩ := hold0 i x hx
          refine ⟨k1, v, k2, keepS _ _ ?_⟩
          rw [hsub]; simp only [if_pos e]; exact k3
        · rw [List.getElem?_append_right (by omega)] at hx
          obtain ⟨k1, _⟩ := hnew _ x hx
          obtain ⟨v, k2, k3, _⟩ := hso _ x hx
          have e1 : L'.off + i * 2 = L'.off + xs.length * 2 + (i - xs.length) * 2 := by omega
          have e2 : L'.off + i * 2 + 1 = L'.off + xs.length * 2 + ((i - xs.length) * 2 + 1) := by omega
          refine ⟨by rw [e1, hnw _ (by omega)]; exact k1, v, by rw [e2, hnw _ (by omega)]; exact k2, keepS _ _ ?_⟩
          rw [hsub]; simp only [if_neg e]; exact k3
      · rw [List.length_append] at hi hj
        rcases subI i S hi h1 with ⟨a1, a2⟩ | ⟨a1, a2, _⟩ <;> rcases subI j S' hj h2 with ⟨b1, b2⟩ | ⟨b1, b2, _⟩
        · exact hsbi i j S S' a1 b1 a2 b2 he
        · obtain ⟨b, o, L, k1, k2, k3, k4, _⟩ := hsbo i S a1 a2
          obtain ⟨x, ox, Lx, q1, q2, _, q4, q5⟩ := hbk _ _ (by omega) b2
          exact (hne x ox Lx b o L S'.blk q1 q2 q4 q5 k1 k2 k3 (by rw [← he]; exact k4)).elim
        · obtain ⟨b, o, L, k1, k2, k3, k4, _⟩ := hsbo j S' b1 b2
          obtain ⟨x, ox, Lx, q1, q2, _, q4, q5⟩ := hbk _ _ (by omega) a2
          exact (hne x ox Lx b o L S.blk q1 q2 q4 q5 k1 k2 k3 (by rw [he]; exact k4)).elim
        · have := hbki (i - xs.length) (j - xs.length) S.blk (by omega) (by omega) a2 (by rw [he]; exact b2)
          omega
    have fpN : ∀ β, fp (.deep (xs ++ ys) 0) L' β → β = L'.blk ∨ ∃ i S, i < xs.length + ys.length ∧ L'.subs i = some S ∧ S.blk = β := fun β h => by
      rcases h with h | ⟨_, _, i, S, h1, _, h3, h4, h5⟩
      · exact .inl h.symm
      · cases h1; rw [List.length_append] at h3; exact .inr ⟨i, S, h3, h4, h5⟩
    obtain ⟨hx, hsr⟩ := hs.remake hid (.inr ⟨L', rfl⟩) hal hsz W hold (fun β h => by
      obtain ⟨b, o, L, k1, k2, k3, k4, _⟩ := hW β h
      exact ⟨b, o, L, k2, (own b k1).2, k3, k4⟩) (fun x o hxi hxo => by
        obtain ⟨k0, o0, k1, k2, k3, k4, k5⟩ := hH' x o hxi hxo
        refine ⟨o0, k1, k2, k3, k4, fun L β hL hf => ⟨fun hw => ?_, fun oi Li hoi hLi hfi => ?_⟩⟩
        · obtain ⟨b, o', L2, q1, q2, q3, q4, _⟩ := hW β hw
          exact hne x o0 L b o' L2 β k0 k1 hL (k2 L β hf) q1 q2 q3 q4
        · rw [hHi] at hoi; cases hoi
          rw [upd_same] at hLi; cases hLi
          have hlt := hs.fplt k1 hL (k2 L β hf)
          rcases fpN β hfi with e | ⟨i, S, h1, h2, h3⟩
          · rcases hblk with h | ⟨b', o', L2, q1, q2, q3, q4⟩
            · omega
            · exact hne x o0 L b' o' L2 β k0 k1 hL (k2 L β hf) q1 q2 q3 (.inl (by rw [q4, e]))
          · rcases subI i S h1 h2 with ⟨a1, a2⟩ | ⟨a1, a2, _⟩
            · obtain ⟨b, o', L2, q1, q2, q3, q4, _⟩ := hsbo i S a1 a2
              exact hne x o0 L b o' L2 β k0 k1 hL (k2 L β hf) q1 q2 q3 (by rw [← h3]; exact q4)
            · exact k5 L β hL hf (i - xs.length) (by omega) (by rw [a2, h3])) (fun oi hoi => by
        rw [hHi] at hoi; cases hoi
        refine .inl ⟨L', upd_same _ _ _, hdeep, fun β hf => ?_⟩
        rcases fpN β hf with e | ⟨i, S, h1, h2, h3⟩
        · rcases hblk with h | ⟨b', o', L2, q1, q2, q3, q4⟩
          · exact .inl (by omega)
          · exact .inr ⟨b', o', L2, q2, (own b' q1).2, q3, .inl (by rw [q4, e])⟩
        · exact .inr (by rw [← h3]; exact (subLt i S h1 h2).1)) hidF
    refine ⟨hx, hsr, ?_⟩
    subst hcv
    rw [hlen]
    refine .gs ?_
    show VR _ _ _ (.osl 2 id 0 (xs.length + Y.length)) _
    exact .osl (upd_same _ _ _) (by rw [hext]; omega) (by omega) hsz2 rfl (by omega) (by rw [hext]; omega) (by rw [← hCs]; omega)
  have hemp : Y = [] ∨ Y ≠ [] := by cases Y <;> simp
  have hpos : Y ≠ [] → 0 < Y.length := fun h => List.length_pos_iff.2 h
  rcases hvs with ⟨rfl, a, rfl⟩ | ⟨b, L, cp, rfl, hL, rfl, hcp, hcap⟩
  · rcases hemp with hY0 | hY0
    · -- nothing behind nothing
      have hys : ys = [] := List.length_eq_zero_iff.1 (by rw [← hYl, hY0]; rfl)
      subst hys
      obtain ⟨hx, hsr⟩ := hs.remake hid (m' := m) (H' := H') (w' := w) (.inl rfl) ⟨rfl, rfl, rfl⟩ (Nat.le_refl _) (fun _ => False) (fun _ _ _ => rfl) (fun _ h => h.elim) (fun x o hxi hxo => by
        obtain ⟨_, o0, k1, k2, k3, k4, _⟩ := hH' x o hxi hxo
        exact ⟨o0, k1, k2, k3, k4, fun L β _ _ => ⟨fun h => h, fun oi Li _ hLi => by rw [hid] at hLi; cases hLi⟩⟩) (fun oi hoi => by
        rw [hHi] at hoi; cases hoi
        exact .inr ⟨hid, .inr (.inr ⟨0, rfl⟩)⟩) hidF
      exact ⟨_, m, w, A.nothing hY0 a 0 0 (Nat.le_refl _), hx, hsr, .gsE, fun _ h => .inl h⟩
    · obtain ⟨D, et, cap, k1, k2, k3⟩ := n4 a 0 0 #[] hY0 (by rw [Nat.zero_add]; exact hpos hY0) hroom (by simp) (fun w' _ => by cases a <;> simp [Builtin.firstCells, loadCells, loadCellsFrom])
      obtain ⟨f1, f2, f3, f4⟩ := alloc_facts w.drew (.cells (#[] ++ new ++ D) et)
      obtain ⟨hx, hsr, hv⟩ := fin ⟨w.heap.size, 0, 2, 0 + Y.length, (#[] ++ new ++ D).size, fun i => if i < ([] : List Blk).length then (fun _ => none : Nat → Option Sub) i else so (i - ([] : List Blk).length)⟩ (w.drew.alloc (.cells (#[] ++ new ++ D) et)) (fun _ => False) (fun _ => none) (#[] ++ new ++ D) et (0, 0) _ cap rfl rfl rfl f3 rfl (NoFz_zero _)
        (by show 0 + (0 + Y.length) * 2 ≤ _; rw [k3]; omega) (fun j hj => by
          show (#[] ++ new ++ D)[0 + 0 * 2 + j]? = _
          rw [Array.empty_append, Array.getElem?_append, if_pos (by omega)]
          congr 1; omega) (fun i x hx => by simp at hx) ⟨f4.os, f4.tape, f4.output⟩ (by rw [f1]; exact Nat.le_succ _) (fun β hβ _ => f2 β hβ) (fun _ h => h.elim) (.inl rfl) (fun i S hi => absurd hi (Nat.not_lt_zero _)) (fun i j S S' hi => absurd hi (Nat.not_lt_zero _)) rfl k2 (by show 0 + cap * 2 ≤ _; rw [k3]; omega)
      exact ⟨_, _, _, k1, hx, hsr, hv, dom_upd⟩
  · obtain ⟨hb, hbF⟩ := hob b rfl
    obtain ⟨⟨d1, d2⟩, ⟨C, e, z, d3, d4, d5, d6, d7⟩, d8, d9⟩ : DeepR w.heap L xs 0 := hs.objm hb hL
    have sbo : ∀ i S, i < xs.length → L.subs i = some S → ∃ b' o L2, some b = some b' ∧ hget H b' = some o ∧ m b' = some L2 ∧ fp o L2 S.blk ∧ S.blk ≠ L2.blk := fun i S hi hS =>
      ⟨b, _, L, rfl, hb, hL, .inr ⟨xs, 0, i, S, rfl, Nat.zero_le _, hi, hS, rfl⟩, d8 i S (Nat.zero_le _) hi hS⟩
    have sbi : ∀ i j S S', i < xs.length → j < xs.length → L.subs i = some S → L.subs j = some S' → S.blk = S'.blk → i = j := fun i j S S' hi hj => d9 i j S S' (Nat.zero_le _) (Nat.zero_le _) hi hj
    rcases hemp with hY0 | hY0
    · have hY1 : Y.length = 0 := by rw [hY0]; rfl
      obtain ⟨hx, hsr, hv⟩ := fin ⟨L.blk, L.off, 2, xs.length + Y.length, L.csz, fun i => if i < xs.length then L.subs i else so (i - xs.length)⟩ w (fun _ => False) L.subs C e z _ cp rfl rfl rfl d3 d4 d5
        (by show L.off + (xs.length + Y.length) * 2 ≤ _; omega) (fun j hj => by omega) (fun i x hx => d7 i x hx (Nat.zero_le _)) ⟨rfl, rfl, rfl⟩ (Nat.le_refl _) (fun _ _ _ => rfl) (fun _ h => h.elim) (.inr ⟨b, _, L, rfl, hb, hL, rfl⟩) sbo sbi (by show _ = Value.slice (some ⟨L.blk, L.off, none⟩) (xs.length + Y.length) cp; rw [hY1, Nat.add_zero]) (by omega) (by show L.off + cp * 2 ≤ _; omega)
      exact ⟨_, _, w, A.nothing hY0 _ xs.length cp (by omega), hx, hsr, hv, dom_upd⟩
    · by_cases hroom2 : xs.length + Y.length ≤ cp
      · -- in place
        have hst := run_stores (P := P) d3 d5 (o := L.off + xs.length * 2) new.toList (by rw [Array.length_toList (xs := new)]; omega) (fun u hu => hn1 u (by simpa using hu))
        have hrun := n3 ⟨L.blk, L.off, none⟩ xs.length cp _ hY0 hroom2 hroom (by rw [add_none]; exact hst)
        obtain ⟨al, asz⟩ := setCells_alike new.toList w L.blk (L.off + xs.length * 2)
        obtain ⟨hx, hsr, hv⟩ := fin ⟨L.blk, L.off, 2, xs.length + Y.length, L.csz, fun i => if i < xs.length then L.subs i else so (i - xs.length)⟩ _ (fun β => β = L.blk) L.subs _ _ _ _ cp rfl rfl rfl (heap_setCells _ d3 _) (by rw [size_setArr]; exact d4) (by rw [NoFz, size_setArr]; exact d5)
          (by show L.off + (xs.length + Y.length) * 2 ≤ _; rw [size_setArr]; omega) (fun j hj => by
            show (setArr C (L.off + xs.length * 2) new.toList)[L.off + xs.length * 2 + j]? = _
            rw [getElem?_setArr _ _ _ _ (by rw [Array.length_toList (xs := new)]; omega), if_pos (by rw [Array.length_toList (xs := new)]; omega), show L.off + xs.length * 2 + j - (L.off + xs.length * 2) = j by omega]
            simp) (fun i x hx => by
            obtain ⟨k1, v, k2, k3⟩ := d7 i x hx (Nat.zero_le _)
            have hi := (List.getElem?_eq_some_iff.1 hx).1
            refine ⟨?_, v, ?_, k3⟩
            · show (setArr C (L.off + xs.length * 2) new.toList)[L.off + i * 2]? = _
              rw [getElem?_setArr _ _ _ _ (by rw [Array.length_toList (xs := new)]; omega), if_neg (by omega)]; exact k1
            · show (setArr C (L.off + xs.length * 2) new.toList)[L.off + i * 2 + 1]? = _
              rw [getElem?_setArr _ _ _ _ (by rw [Array.length_toList (xs := new)]; omega), if_neg (by omega)]; exact k2) al (by rw [asz]; exact Nat.le_refl _) (fun β _ hβ => heap_setCells_ne _ _ _ _ _ hβ)
          (fun β h => ⟨b, _, L, rfl, hb, hL, .inl h.symm, h.symm⟩) (.inr ⟨b, _, L, rfl, hb, hL, rfl⟩) sbo sbi rfl hroom2 (by show L.off + cp * 2 ≤ _; rw [size_setArr]; omega)
        exact ⟨_, _, _, hrun, hx, hsr, hv, dom_upd⟩
      · -- elsewhere
        have hg : ∀ j, j < xs.length * 2 → ∃ v, C[L.off + j]? = some v := fun j hj => ⟨C[L.off + j]'(by omega), Array.getElem?_eq_getElem _⟩
        let g : Nat → Value := fun j => C.getD (L.off + j) undef
        have hgg : ∀ j, j < xs.length * 2 → C[L.off + j]? = some (g j) := fun j hj => by
          obtain ⟨v, hv⟩ := hg j hj
          show _ = some (C.getD (L.off + j) undef)
          rw [Array.getD_eq_getD_getElem?, hv]; rfl
        obtain ⟨D, et, cap, k1, k2, k3⟩ := n4 (some ⟨L.blk, L.off, none⟩) xs.length cp ((List.range (xs.length * 2)).map g).toArray hY0 (by omega) hroom (by simp) (fun w' hw' => by
          simp only [Builtin.firstCells]
          exact run_loadCells_row w' (by rw [hw']; exact d3) hgg)
        generalize hold : ((List.range (xs.length * 2)).map g).toArray = old at *
        have hos : old.size = xs.length * 2 := by rw [← hold]; simp
        have hoj : ∀ j, j < xs.length * 2 → old[j]? = C[L.off + j]? := fun j hj => by rw [← hold, hgg j hj]; simp [hj]
        obtain ⟨f1, f2, f3, f4⟩ := alloc_facts w.drew (.cells (old ++ new ++ D) et)
        have hge : ∀ j, j < xs.length * 2 → (old ++ new ++ D)[j]? = C[L.off + j]? := fun j hj => by
          rw [Array.getElem?_append, if_pos (by rw [Array.size_append]; omega), Array.getElem?_append, if_pos (by omega), hoj j hj]
        obtain ⟨hx, hsr, hv⟩ := fin ⟨w.heap.size, 0, 2, xs.length + Y.length, (old ++ new ++ D).size, fun i => if i < xs.length then L.subs i else so (i - xs.length)⟩ (w.drew.alloc (.cells (old ++ new ++ D) et)) (fun _ => False) L.subs (old ++ new ++ D) et (0, 0) _ cap rfl rfl rfl f3 rfl (NoFz_zero _)
          (by show 0 + (xs.length + Y.length) * 2 ≤ _; rw [k3]; omega) (fun j hj => by
            show (old ++ new ++ D)[0 + xs.length * 2 + j]? = _
            rw [Array.getElem?_append, if_pos (by rw [Array.size_append]; omega), Array.getElem?_append, if_neg (by omega)]
            congr 1; omega) (fun i x hx => by
            obtain ⟨k1, v, k2, k3⟩ := d7 i x hx (Nat.zero_le _)
            have hi := (List.getElem?_eq_some_iff.1 hx).1
            refine ⟨?_, v, ?_, k3⟩
            · show (old ++ new ++ D)[0 + i * 2]? = _
              rw [Nat.zero_add, hge _ (by omega)]; exact k1
            · show (old ++ new ++ D)[0 + i * 2 + 1]? = _
              rw [Nat.zero_add, hge _ (by omega)]; exact k2) ⟨f4.os, f4.tape, f4.output⟩ (by rw [f1]; exact Nat.le_succ _) (fun β hβ _ => f2 β hβ) (fun _ h => h.elim) (.inl rfl) sbo sbi rfl k2 (by show 0 + cap * 2 ≤ _; rw [k3]; omega)
        exact ⟨_, _, _, k1, hx, hsr, hv, dom_upd⟩

/-- An own row's cells, as those of a row within a row. -/
theorem SR.rowSub (hs : SR c m H F w) {r : Nat} {d : List UInt8} (hr : hget H r = some (.tarr .u8 d)) {ok' : Nat → Prop} {v : Value} (hv : VR ok' w.heap m (.osl 1 r 0 d.length) v ∨ (d = [] ∧ ∃ a, v = .slice a 0 0)) :
    ∃ o, SubR w.heap d v o ∧ ∀ S, o = some S → (m r).map Loc.blk = some S.blk := by
  have none : d = [] → (∃ a, v = .slice a 0 0) → ∃ o, SubR w.heap d v o ∧ ∀ S, o = some S → (m r).map Loc.blk = some S.blk := fun h1 h2 => ⟨.none, ⟨h1, h2⟩, fun S h => by cases h⟩
  rcases hv with hv | ⟨h1, h2⟩
  · obtain ⟨L, h1, h2, h3, h4⟩ := hv.osl_inv
    rcases h4 with ⟨h5, h6, a, rfl⟩ | ⟨cp, rfl, h5, h6, h7⟩
    · exact none (List.length_eq_zero_iff.1 h5) ⟨_, rfl⟩
    · obtain ⟨j1, j2, j3, j4, C, e, z, k1, k2, k3, k4, k5⟩ : ArrR (okB c.X m H F) w.heap m L 1 (encs .u8 d) := hs.objm hr h1
      rw [encs_length] at j3 k4
      refine ⟨some ⟨L.blk, L.off, L.ext, L.csz⟩, ⟨⟨cp, by simp, by simpa using h6, by simpa using h7⟩, j3, C, e, z, k1, k2, k3, by simpa using k4, fun j b hb => ?_⟩, fun S hS => ?_⟩
      · have hj := (List.getElem?_eq_some_iff.1 hb).1
        have hei : (encs .u8 d)[j]? = some (enc .u8 b) := by simp [encs, hb]
        have := flat_getElem? (encs_size .u8 d) hei (j := 0) (by decide)
        obtain ⟨u, q1, q2⟩ := k5 _ _ this
        have e0 : j * GT.u8.size + 0 = j := by show j * 1 + 0 = j; omega
        rw [e0] at q1
        have q2 : VR (okB c.X m H F) w.heap m (.int .u8 (b.toNat : Int)) u := q2
        show C[L.off + j]? = _
        rw [q1, q2.int_inv]
      · cases hS; rw [h1]; rfl
  · exact none h1 h2

/-- The elements of such a row, each with its own row. -/
def subEls (b q : Nat) (xs : List Blk) : List AV := xs.mapIdx fun i x => .agg (if q ≤ i then [.int .i64 x.pos, .sub b i x.data.length] else [.dead, .dead])

omit [Syms] in
theorem subEls_get {b q i : Nat} {xs : List Blk} {x : Blk} (h : xs[i]? = some x) (hq : q ≤ i) : (subEls b q xs)[i]? = some (.agg [.int .i64 x.pos, .sub b i x.data.length]) := by
  simp [subEls, h, hq]

omit [Syms] in
theorem subEls_size (b q : Nat) (xs : List Blk) : ∀ x ∈ subEls b q xs, x.cells.length = 2 := fun x hx => by
  obtain ⟨i, h1, h2⟩ := List.mem_mapIdx.1 hx
  rw [← h2]
  show (if q ≤ i then _ else _ : List AV).length = 2
  split <;> rfl

theorem DeepR.subs {ok : Nat → Prop} {h : Array Obj} {m : Map} {b : Nat} {L : Loc} {xs : List Blk} {q : Nat} (hm : m b = some L) (hd : DeepR h L xs q) : ArrR ok h m L 2 (subEls b q xs) := by
  obtain ⟨⟨h1, h2⟩, ⟨C, e, z, h3, h4, h5, h6, h7⟩, _⟩ := hd
  have hl : (subEls b q xs).length = xs.length := by simp [subEls]
  refine ⟨h1, by omega, by rw [hl]; exact h2, subEls_size b q xs, C, e, z, h3, h4, h5, by rw [hl]; exact h6, fun j x hx => ?_⟩
  have hj := (List.getElem?_eq_some_iff.1 hx).1
  rw [flat_length (subEls_size b q xs), hl] at hj
  have hi : j / 2 < xs.length := by omega
  have hfl := flat_getElem? (subEls_size b q xs) (i := j / 2) (j := j % 2) (x := (subEls b q xs)[j / 2]'(by rw [hl]; exact hi)) (List.getElem?_eq_getElem _) (by omega)
  rw [show j / 2 * 2 + j % 2 = j by omega, hx] at hfl
  have hel : (subEls b q xs)[j / 2]'(by rw [hl]; exact hi) = .agg (if q ≤ j / 2 then [.int .i64 xs[j / 2].pos, .sub b (j / 2) xs[j / 2].data.length] else [.dead, .dead]) := by simp [subEls]
  rw [hel] at hfl
  have hcell : L.off + j < C.size := by omega
  by_cases hq : q ≤ j / 2
  · rw [if_pos hq] at hfl
    obtain ⟨k1, v, k2, k3⟩ := h7 (j / 2) xs[j / 2] (List.getElem?_eq_getElem hi) hq
    rcases Nat.mod_two_eq_zero_or_one j with e0 | e0
    · rw [e0] at hfl
      have hfl : some x = some (.int .i64 xs[j / 2].pos) := hfl
      cases hfl
      exact ⟨_, by rw [show L.off + j = L.off + j / 2 * 2 by omega]; exact k1, .int _ _⟩
    · rw [e0] at hfl
      have hfl : some x = some (.sub b (j / 2) xs[j / 2].data.length) := hfl
      cases hfl
      exact ⟨v, by rw [show L.off + j = L.off + j / 2 * 2 + 1 by omega]; exact k2, k3.vr hm⟩
  · rw [if_neg hq] at hfl
    have hfl : some x = ([.dead, .dead] : List AV)[j % 2]? := hfl
    refine ⟨C[L.off + j], Array.getElem?_eq_getElem _, ?_⟩
    rcases Nat.mod_two_eq_zero_or_one j with e0 | e0 <;> rw [e0] at hfl <;> cases hfl <;> exact .dead

/-- A row within a row, out of its value. -/
theorem DeepR.sub {ok' : Nat → Prop} {h : Array Obj} {m : Map} {b i : Nat} {L : Loc} {xs : List Blk} {q : Nat} (hm : m b = some L) (hd : DeepR h L xs q) {x : Blk} (hx : xs[i]? = some x) (hq : q ≤ i) {h' : Array Obj} {v : Value} (hv : VR ok' h' m (.sub b i x.data.length) v) : SubR h x.data v (L.subs i) := by
  obtain ⟨_, ⟨C, e, z, h3, h4, h5, h6, h7⟩, _⟩ := hd
  obtain ⟨_, u, _, k3⟩ := h7 i x hx hq
  generalize hn : x.data.length = n at hv
  cases hv with
  | subE h1 h2 =>
    rw [hm] at h1; cases h1
    rw [h2]
    exact ⟨List.length_eq_zero_iff.1 hn, _, rfl⟩
  | sub h1 h2 h8 h9 h10 =>
    rw [hm] at h1; cases h1
    rw [h2] at k3 ⊢
    obtain ⟨_, j1, j2⟩ := k3
    exact ⟨⟨_, by rw [hn], h9, h10⟩, j1, j2⟩

theorem SR.rest (hs : SR c m H F w) {b q q' : Nat} {xs : List Blk} (hq : q ≤ q') : (∀ L β, fp (.deep xs q') L β → fp (.deep xs q) L β) ∧ (∀ ok hh (mm : Map) L, ObjR ok hh mm L (.deep xs q) → ObjR ok hh mm L (.deep xs q')) ∧ (Void (.deep xs q) → Void (.deep xs q')) := by
  refine ⟨fun L β h => ?_, fun ok hh mm L h => ?_, fun h => ?_⟩
  · rcases h with h | ⟨_, _, i, S, h1, h2, h3, h4, h5⟩
    · exact .inl h
    · cases h1; exact .inr ⟨_, _, i, S, rfl, by omega, h3, h4, h5⟩
  · obtain ⟨h1, ⟨C, e, z, h3, h4, h5, h6, h7⟩, h8, h9⟩ := h
    exact ⟨h1, ⟨C, e, z, h3, h4, h5, h6, fun i x hx hi => h7 i x hx (by omega)⟩, fun i S hi => h8 i S (by omega), fun i j S S' hi hj => h9 i j S S' (by omega) (by omega)⟩
  · rcases h with ⟨t, h⟩ | ⟨t, h⟩ | ⟨t, h⟩
    · cases h
    · cases h
    · cases h; exact .inr (.inr ⟨_, rfl⟩)

/-- What is appended to such a row. -/
inductive DSrc (s : St) : AV → List Blk → Eff → Prop
  | none {x} : x = .sl [] ∨ x = .nils ∨ x = .emp → DSrc s x [] []
  | deep {b lo len xs q} : hget s.H b = some (.deep xs q) → b ∉ s.F → q ≤ lo → lo + len ≤ xs.length → DSrc s (.osl 2 b lo len) ((xs.drop lo).take len) [(b, some (.deep xs (lo + len)))]
  | whole {g : GT} {b xs} : g.size = 2 → hget s.H b = some (.deep xs 0) → b ∉ s.F → DSrc s (.gs g b xs.length) xs [(b, some (.deep xs xs.length))]
  | one {p X d r b} : hget s.H b = some (.arr 2 [.agg [.int .i64 p, X]]) → (X = .osl 1 r 0 d.length ∨ ∃ g : GT, g.size = 1 ∧ X = .gs g r d.length) → hget s.H r = some (.tarr .u8 d) → r ∉ s.F → DSrc s (.osl 2 b 0 1) [⟨p, d⟩] [(r, Option.none)]

omit [Syms] in
theorem dElem_some {s : St} {k : List UInt8 → Eff → Prop} {X : AV} (h : dElem s k X) : ∃ d r, k d [(r, none)] ∧ (X = .osl 1 r 0 d.length ∨ ∃ g : GT, g.size = 1 ∧ X = .gs g r d.length) ∧ hget s.H r = some (.tarr .u8 d) ∧ r ∉ s.F := by
  unfold dElem at h
  split at h
  · rename_i g r n
    obtain ⟨h1, h2⟩ := must_and h
    split at h2
    · rename_i g' l hb
      obtain ⟨hb, hF⟩ := hlive_some hb
      obtain ⟨d, h3, h4, h5⟩ := optC_some h2
      obtain ⟨e, rfl⟩ := listOf_tl h3
      subst e
      exact ⟨_, r, h5, .inr ⟨g, beq_eq' h1, by rw [h4]⟩, hb, hF⟩
    · exact h2.elim
  · rename_i m r lo n
    obtain ⟨h1, h2⟩ := must_and h
    simp only [Bool.and_eq_true] at h1
    obtain ⟨h6, h7⟩ := h1
    have h6 := beq_eq' h6
    have h7 := beq_eq' h7
    subst h6; subst h7
    split at h2
    · rename_i g' l hb
      obtain ⟨hb, hF⟩ := hlive_some hb
      obtain ⟨d, h3, h4, h5⟩ := optC_some h2
      obtain ⟨e, rfl⟩ := listOf_tl h3
      subst e
      exact ⟨_, r, h5, .inl (by rw [h4]), hb, hF⟩
    · exact h2.elim
  · exact h.elim

omit [Syms] in
theorem dSrc_some {s : St} {k : List Blk → Eff → Prop} {x : AV} (h : dSrc s k x) : ∃ ys es, k ys es ∧ DSrc s x ys es := by
  unfold dSrc at h
  split at h
  · rename_i m b lo len
    obtain ⟨h1, h2⟩ := must_and h
    have h1 := beq_eq' h1
    subst h1
    split at h2
    · rename_i xs q hb
      obtain ⟨hb, hF⟩ := hlive_some hb
      obtain ⟨⟨h3, h4⟩, h5⟩ := h2
      exact ⟨_, _, h5, .deep hb hF h3 h4⟩
    · rename_i n p X hb
      obtain ⟨hb, hF⟩ := hlive_some hb
      obtain ⟨h3, h4⟩ := must_and h2
      simp only [Bool.and_eq_true] at h3
      obtain ⟨a1, a2, a3⟩ := h3
      have a1 := beq_eq' a1
      have a2 := beq_eq' a2
      have a3 := beq_eq' a3
      subst a1; subst a2; subst a3
      obtain ⟨d, r, k1, k2, k3, k4⟩ := dElem_some h4
      exact ⟨_, _, k1, .one hb k2 k3 k4⟩
    · exact h2.elim
  · rename_i g b n
    obtain ⟨h1, h2⟩ := must_and h
    split at h2
    · rename_i xs q hb
      obtain ⟨hb, hF⟩ := hlive_some hb
      obtain ⟨⟨h3, h4⟩, h5⟩ := h2
      subst h3; subst h4
      exact ⟨_, _, h5, .whole (beq_eq' h1) hb hF⟩
    · exact h2.elim
  · exact ⟨_, _, h, .none (.inl rfl)⟩
  · exact ⟨_, _, h, .none (.inr (.inl rfl))⟩
  · exact ⟨_, _, h, .none (.inr (.inr rfl))⟩
  · exact h.elim

/-- What an append needs of what is appended. -/
structure SrcOK (P : Program) (T : Tabs) (c : Ctx) (m : Map) (H : Heap) (F : List Nat) (w : World) (ts : Array TypeId) (ty : TypeId) (vx : Value) (by_ : Nat) (ys : List Blk) (es : Eff) (Hx : Heap) (Y : List AV) (bk : Nat → Option Nat) : Prop where
  app : App P T c m Hx F w ts ty vx 2 by_ Y
  len : Y.length = ys.length
  el : ∀ (j : Nat) (y : Blk), ys[j]? = some y → ∃ X, Y[j]? = some (.agg [.int .i64 y.pos, X]) ∧ ∀ v, VR (okB c.X m Hx F) w.heap m X v → ∃ o, SubR w.heap y.data v o ∧ ∀ S, o = some S → bk j = some S.blk
  own : ∀ j β, j < ys.length → bk j = some β → ∃ x ox Lx, x ∈ es.map (·.1) ∧ hget H x = some ox ∧ x ∉ F ∧ m x = some Lx ∧ fp ox Lx β
  inj : ∀ i j β, i < ys.length → j < ys.length → bk i = some β → bk j = some β → i = j
  rest : ∀ x o, ((x, some o) ∈ es ∨ (hget H x = some o ∧ x ∉ es.map (·.1))) → ∃ o0, hget H x = some o0 ∧ (∀ L β, fp o L β → fp o0 L β) ∧ (∀ ok hh mm L, ObjR ok hh mm L o0 → ObjR ok hh mm L o) ∧ (Void o0 → Void o) ∧ ∀ L β, m x = some L → fp o L β → ∀ j, j < ys.length → bk j ≠ some β

theorem DSrc.app (hT : TyOK P T) {s : St} (hs : SR c m s.H s.F w) {ts : Array TypeId} {ty : TypeId} {st xt : TypeId} {rest : List TypeId} (hts : ts.toList = st :: xt :: rest) (hsk : srcKind T xt = true) {e : TypeId × Nat × AV} (he : elemT T st = some e) (h2 : e.2.1 = 2)
    {by_ : Nat} (hby : bytesOf T e.1 = some by_) {x : AV} {ys : List Blk} {es : Eff} (hd : DSrc s x ys es) {vx : Value} (hvx : VR (okB c.X m s.H s.F) w.heap m x vx) : ∃ Hx Y bk, SrcOK P T c m s.H s.F w ts ty vx by_ ys es Hx Y bk := by
  have h0 : ts[0]? = some st := by rw [← Array.getElem?_toList, hts]; rfl
  have h1 : ts[1]? = some xt := by rw [← Array.getElem?_toList, hts]; rfl
  have same : ∀ {ys : List Blk} {es : Eff} {bk : Nat → Option Nat}, (∀ x o0 L β, hget s.H x = some o0 → x ∉ es.map (·.1) → m x = some L → fp o0 L β → ∀ j, j < ys.length → bk j ≠ some β) → ∀ x o, hget s.H x = some o ∧ x ∉ es.map (·.1) →
      ∃ o0, hget s.H x = some o0 ∧ (∀ L β, fp o L β → fp o0 L β) ∧ (∀ ok hh mm L, ObjR ok hh mm L o0 → ObjR ok hh mm L o) ∧ (Void o0 → Void o) ∧ ∀ L β, m x = some L → fp o L β → ∀ j, j < ys.length → bk j ≠ some β := fun h x o ⟨k1, k2⟩ =>
    ⟨o, k1, fun _ _ h => h, fun _ _ _ _ h => h, fun h => h, fun L β k3 k4 => h x o L β k1 k2 k3 k4⟩
  have deep : ∀ {x : AV} {b lo len q : Nat} {xs : List Blk}, hget s.H b = some (.deep xs q) → b ∉ s.F → q ≤ lo → lo + len ≤ xs.length → (∀ H1 : Heap, hget H1 b = some (.arr 2 (subEls b q xs)) → elems H1 x = some (((subEls b q xs).drop lo).take len)) → VR (okB c.X m s.H s.F) w.heap m x vx →
      ∃ Hx Y bk, SrcOK P T c m s.H s.F w ts ty vx by_ ((xs.drop lo).take len) [(b, some (.deep xs (lo + len)))] Hx Y bk := by
    intro x b lo len q xs hb hbF hlo hle hel hvx
    have hsl : (subEls b q xs).length = xs.length := by simp [subEls]
    have hs' := hs.retell (o1 := .arr 2 (subEls b q xs)) hb (fun L hL => DeepR.subs hL (hs.objm hb hL)) (fun hv => by
      rcases hv with ⟨t, h⟩ | ⟨t, h⟩ | ⟨t, h⟩
      · cases h
      · cases h
      · cases h; exact .inr (.inl ⟨2, rfl⟩))
    have hget1 : hget (hset s.H b (.arr 2 (subEls b q xs))) b = some (.arr 2 (subEls b q xs)) := by rw [hget_hset, if_pos rfl]
    have hfit : (((subEls b q xs).drop lo).take len).all (fitsN 2) = true := by
      refine List.all_eq_true.2 fun y hy => ?_
      obtain ⟨j, hj⟩ := List.getElem?_of_mem hy
      have hj' : j < len := by
        rcases Nat.lt_or_ge j len with h | h
        · exact h
        · rw [List.getElem?_take, if_neg (by omega)] at hj; cases hj
      rw [List.getElem?_take_of_lt hj', List.getElem?_drop] at hj
      have hi := (List.getElem?_eq_some_iff.1 hj).1
      rw [hsl] at hi
      rw [subEls_get (List.getElem?_eq_getElem hi) (by omega)] at hj
      cases hj
      rfl
    have A := app_of (ty := ty) hT hs' h0 h1 he hby (by rw [srcKind_elems hsk]; exact hel _ hget1) (by rw [h2]; exact hfit) (hvx.mono (fun β C e z ho hh => ⟨okB_set hb ho, hh⟩) (MLe.refl m))
    rw [h2] at A
    have hys : ∀ (j : Nat) (y : Blk), ((xs.drop lo).take len)[j]? = some y → j < len ∧ xs[lo + j]? = some y := fun j y hy => by
      rcases Nat.lt_or_ge j len with h | h
      · rw [List.getElem?_take_of_lt h, List.getElem?_drop] at hy; exact ⟨h, hy⟩
      · rw [List.getElem?_take, if_neg (by omega)] at hy; cases hy
    have hyl : ((xs.drop lo).take len).length = len := by simp; omega
    have hbkv : ∀ j β, (m b).bind (fun L => (L.subs (lo + j)).map (·.blk)) = some β → ∃ L S, m b = some L ∧ L.subs (lo + j) = some S ∧ S.blk = β := fun j β h => by
      cases hm : m b with
      | none => rw [hm] at h; cases h
      | some L =>
        rw [hm] at h
        cases hS : L.subs (lo + j) with
        | none => simp [hS] at h
        | some S => exact ⟨L, S, rfl, hS, by simpa [hS] using h⟩
    refine ⟨_, _, fun j => (m b).bind fun L => (L.subs (lo + j)).map (·.blk), A, by simp [hsl], fun j y hy => ?_, fun j β hj h => ?_, fun i j β hi hj h3 h4 => ?_, fun z o hz => ?_⟩
    · obtain ⟨hj, hx⟩ := hys j y hy
      refine ⟨.sub b (lo + j) y.data.length, by rw [List.getElem?_take_of_lt hj, List.getElem?_drop, subEls_get hx (by omega)], fun v hv => ?_⟩
      rcases hs.all b _ hb with ⟨L, hL, hobj⟩ | ⟨_, hv0⟩
      · refine ⟨L.subs (lo + j), DeepR.sub hL hobj hx (by omega) hv, fun S hS => ?_⟩
        rw [hL]; show (L.subs (lo + j)).map _ = _; rw [hS]; rfl
      · rcases hv0 with ⟨t, h⟩ | ⟨t, h⟩ | ⟨t, h⟩
        · cases h
        · cases h
        · cases h; simp at hx
    · obtain ⟨L, S, k1, k2, k3⟩ := hbkv j β h
      rw [hyl] at hj
      exact ⟨b, _, L, by simp, hb, hbF, k1, .inr ⟨xs, q, lo + j, S, rfl, by omega, by omega, k2, k3⟩⟩
    · obtain ⟨L, S, k1, k2, k3⟩ := hbkv i β h3
      obtain ⟨L', S', q1, q2, q3⟩ := hbkv j β h4
      rw [k1] at q1; cases q1
      obtain ⟨_, _, _, d9⟩ : DeepR w.heap L xs q := hs.objm hb k1
      rw [hyl] at hi hj
      have := d9 (lo + i) (lo + j) S S' (by omega) (by omega) (by omega) (by omega) k2 q2 (by rw [k3, q3])
      omega
    · rcases hz with hz | hz
      · have hz : (z, some o) = (b, some (.deep xs (lo + len))) := by simpa using hz
        cases hz
        obtain ⟨r1, r2, r3⟩ := hs.rest (b := b) (q := q) (q' := lo + len) (xs := xs) (by omega)
        refine ⟨_, hb, r1, r2, r3, fun L β hL hf j hj h => ?_⟩
        obtain ⟨L', S, q1, q2, q3⟩ := hbkv j β h
        rw [hL] at q1; cases q1
        obtain ⟨_, _, d8, d9⟩ : DeepR w.heap L xs q := hs.objm hb hL
        rw [hyl] at hj
        rcases hf with hf | ⟨_, _, i, S', z1, z2, z3, z4, z5⟩
        · exact d8 (lo + j) S (by omega) (by omega) q2 (by rw [q3, hf])
        · cases z1
          have := d9 i (lo + j) S' S (by omega) (by omega) z3 (by omega) z4 q2 (by rw [z5, q3])
          omega
      · refine same (fun y o0 L β k1 k2 k3 k4 j hj h => ?_) z o hz
        obtain ⟨L', S, q1, q2, q3⟩ := hbkv j β h
        rw [hyl] at hj
        have := hs.injf y o0 b _ L L' β k1 hb k3 q1 k4 (.inr ⟨xs, q, lo + j, S, rfl, by omega, by omega, q2, q3⟩)
        subst this
        exact k2 (by simp)
  cases hd with
  | none hx =>
    have hel : elems s.H x = some [] := by rcases hx with rfl | rfl | rfl <;> rfl
    have A := app_of (ty := ty) hT hs h0 h1 he hby (by rw [srcKind_elems hsk]; exact hel) (by rfl) hvx
    rw [h2] at A
    exact ⟨_, _, fun _ => Option.none, A, rfl, fun j y hy => (by simp at hy), fun j β hj => (by simp at hj), fun i j β hi => (by simp at hi), fun z o hz => by
      rcases hz with hz | hz
      · simp at hz
      · exact same (fun _ _ _ _ _ _ _ _ j hj => by simp at hj) z o hz⟩
  | @deep b lo len xs q hb hbF hlo hle =>
    refine deep hb hbF hlo hle (fun H1 hb1 => ?_) hvx
    have hsl : (subEls b q xs).length = xs.length := by simp [subEls]
    simp only [elems, hb1, hsl, show (lo + len).ble xs.length = true from Nat.ble_eq_true_of_le hle, cond_true]
  | @whole g b _ hg hb hbF =>
    have hsl : (subEls b 0 ys).length = ys.length := by simp [subEls]
    have := deep (x := .gs g b ys.length) (lo := 0) (len := ys.length) hb hbF (Nat.le_refl _) (by omega) (fun H1 hb1 => by
      simp only [elems, hb1, hsl, beq_same, cond_true, List.drop_zero]
      rw [List.take_of_length_le (by omega)]) hvx
    simpa using this
  | @one p X d r b hb hX hr hrF =>
    have hel : elems s.H (.osl 2 b 0 1) = some [.agg [.int .i64 p, X]] := by
      simp only [elems, hb]; rfl
    have A := app_of (ty := ty) hT hs h0 h1 he hby (by rw [srcKind_elems hsk]; exact hel) (by
      rw [h2]
      rcases hX with rfl | ⟨g, _, rfl⟩ <;> rfl) hvx
    rw [h2] at A
    refine ⟨_, _, fun _ => (m r).map Loc.blk, A, rfl, fun j y hy => ?_, fun j β hj h => ?_, fun i j β hi hj _ _ => ?_, fun z o hz => ?_⟩
    · have hj : j = 0 := by
        have := (List.getElem?_eq_some_iff.1 hy).1
        simp at this; exact this
      subst hj
      simp at hy
      subst hy
      refine ⟨X, rfl, fun v hv => hs.rowSub hr (ok' := okB c.X m s.H s.F) ?_⟩
      rcases hX with rfl | ⟨g, hg, rfl⟩
      · exact .inl hv
      · generalize hn : d.length = n at hv
        cases hv with
        | gsE => exact .inr ⟨List.length_eq_zero_iff.1 hn, _, rfl⟩
        | gs hv => rw [hg] at hv; subst hn; exact .inl hv
    · cases hm : m r with
      | none => rw [hm] at h; cases h
      | some L =>
        rw [hm] at h
        have h : L.blk = β := by simpa using h
        exact ⟨r, _, L, by simp, hr, hrF, hm, .inl h⟩
    · simp at hi hj; omega
    · rcases hz with hz | hz
      · simp at hz
      · refine same (fun y o0 L β k1 k2 k3 k4 j hj h => ?_) z o hz
        cases hm : m r with
        | none => rw [hm] at h; cases h
        | some L' =>
          rw [hm] at h
          have h : L'.blk = β := by simpa using h
          have := hs.injf y o0 r _ L L' β k1 hr k3 hm k4 (.inl h)
          subst this
          exact k2 (by simp)

/-- An operation that is made, and what it leaves. -/
def DStep (P : Program) (s : St) (id : Nat) (op : Op) (v : AV) (e : Eff) : Prop :=
  ∀ (c : Ctx) (m : Map) (w : World) (a : Act) (o : Oper), o.op = op → SR c m s.H s.F w → (∀ b, id ≤ b → b < id + STRIDE → m b = none) → FrR (okB c.X m s.H s.F) w.heap m s.fr a.tmps → ∃ cv m' w', OpRun P a o w cv w' ∧ Done c m s.H s.F w id v e [] cv m' w'

/-- What is left of what was appended to. -/
def obE : Option Nat → Eff
  | some b => [(b, none)]
  | none => []

omit [Syms] in
theorem dBase_some {s : St} {k : List Blk → Eff → Prop} {a : AV} (h : dBase s k a) : ∃ xs ob, k xs (obE ob) ∧ (∀ b, ob = some b → hget s.H b = some (.deep xs 0) ∧ b ∉ s.F) ∧ ((xs = [] ∧ (a = .nils ∨ a = .emp)) ∨ ∃ b, ob = some b ∧ (a = .osl 2 b 0 xs.length ∨ ∃ g : GT, g.size = 2 ∧ a = .gs g b xs.length)) := by
  unfold dBase at h
  split at h
  · rename_i g b n
    obtain ⟨h1, h2⟩ := must_and h
    split at h2
    · rename_i xs q hb
      obtain ⟨hb, hF⟩ := hlive_some hb
      obtain ⟨⟨h3, h4⟩, h5⟩ := h2
      subst h3; subst h4
      exact ⟨xs, some b, h5, fun b' e => (by cases e; exact ⟨hb, hF⟩), .inr ⟨b, rfl, .inr ⟨g, beq_eq' h1, rfl⟩⟩⟩
    · exact h2.elim
  · rename_i m b lo n
    obtain ⟨h1, h2⟩ := must_and h
    simp only [Bool.and_eq_true] at h1
    obtain ⟨a1, a2⟩ := h1
    have a1 := beq_eq' a1
    have a2 := beq_eq' a2
    subst a1; subst a2
    split at h2
    · rename_i xs q hb
      obtain ⟨hb, hF⟩ := hlive_some hb
      obtain ⟨⟨h3, h4⟩, h5⟩ := h2
      subst h3; subst h4
      exact ⟨xs, some b, h5, fun b' e => (by cases e; exact ⟨hb, hF⟩), .inr ⟨b, rfl, .inl rfl⟩⟩
    · exact h2.elim
  · exact ⟨[], none, h, fun b e => (by cases e), .inl ⟨rfl, .inl rfl⟩⟩
  · exact ⟨[], none, h, fun b e => (by cases e), .inl ⟨rfl, .inr rfl⟩⟩
  · exact h.elim

omit [Syms] in
theorem DSrc.keys {s : St} {x : AV} {ys : List Blk} {es : Eff} (h : DSrc s x ys es) : es.map (·.1) = [] ∨ ∃ b, es.map (·.1) = [b] := by
  cases h with
  | none _ => exact .inl rfl
  | deep _ _ _ _ => exact .inr ⟨_, rfl⟩
  | whole _ _ _ => exact .inr ⟨_, rfl⟩
  | one _ _ _ _ => exact .inr ⟨_, rfl⟩

variable {S : SE} {s : St} {id : Nat} {k : Kont}

theorem dAppC_some (hT : TyOK P S.T) {ts : Array TypeId} {a x : Operand} (h : dAppC S s id ts.toList k (opnd s.fr a) (opnd s.fr x)) : ∃ v e rd, k v e rd [] ∧ DStep P s id (.call ⟨.builtin .append, #[a, x], ts⟩) v e := by
  unfold dAppC at h
  split at h
  · rename_i st xt rest hts
    obtain ⟨hsk, h⟩ := must_and h
    obtain ⟨e, he, h⟩ := optC_some h
    obtain ⟨by_, hby, h⟩ := optC_some h
    obtain ⟨h2, h⟩ := must_and h
    have h2 := beq_eq' h2
    obtain ⟨xs, ob, h, hob, hbase⟩ := dBase_some h
    obtain ⟨ys, es, h, hd⟩ := dSrc_some h
    obtain ⟨hap, hroom, hk⟩ := must_and h
    refine ⟨_, _, _, hk, fun c m w act o ho hs hid hf => ?_⟩
    have hid := hid id (Nat.le_refl _) (by unfold STRIDE; omega)
    obtain ⟨dst, op, oty, pos, after, guard⟩ := o
    simp only at ho
    subst ho
    obtain ⟨eb, heb⟩ : ∃ eb, obE ob = eb := ⟨_, rfl⟩
    rw [heb] at hap ⊢
    have hmem : ∀ z, ob = some z ↔ z ∈ eb.map (·.1) := fun z => by
      rw [← heb]
      cases ob with
      | none => simp [obE]
      | some b => simp [obE, eq_comm]
    unfold dApart at hap
    simp only [Bool.and_eq_true, Bool.not_eq_true'] at hap
    obtain ⟨hidF, hidk, hdist⟩ := hap
    have hidF := (isIn_false id s.F).1 hidF
    have hidk := (isIn_false id _).1 hidk
    rw [List.map_append, List.mem_append] at hidk
    have hdis : ∀ z, ob = some z → z ∉ es.map (·.1) := fun z hz hm => by
      rcases hd.keys with h | ⟨b, h⟩
      · rw [h] at hm; cases hm
      · rw [h] at hm
        rw [List.map_append, h, ← heb, hz] at hdist
        have hm : z = b := by simpa using hm
        subst hm
        have hdist : (!(z.beq z)) = true := hdist
        rw [beq_same] at hdist
        cases hdist
    have hva := opnd_vr hf a
    have hvx := opnd_vr hf x
    obtain ⟨Hx, Y, bk, A⟩ := hd.app (ty := oty) hT hs hts hsk he h2 hby hvx
    have hRk : ∀ z, z ∈ (eb ++ es).map (·.1) ↔ (z ∈ eb.map (·.1) ∨ z ∈ es.map (·.1)) := fun z => by rw [List.map_append, List.mem_append]
    obtain ⟨cv, m', w', g1, g2, g3, g4, g5⟩ := sim_dapp (ty := oty) (vs := act.eval a) hs hid hidF A.app hob (by
      rcases hbase with ⟨h1, h3⟩ | ⟨b, hb1, hb2⟩
      · refine .inl ⟨h1, ?_⟩
        rcases h3 with h3 | h3
        · rw [h3] at hva
          generalize act.eval a = u at hva
          cases hva; exact ⟨_, rfl⟩
        · rw [h3] at hva
          generalize act.eval a = u at hva
          cases hva; exact ⟨_, rfl⟩
      · have osl : ∀ u, VR (okB c.X m s.H s.F) w.heap m (.osl 2 b 0 xs.length) u → (xs = [] ∧ ∃ a, u = .slice a 0 0) ∨ ∃ b L cp, ob = some b ∧ m b = some L ∧ u = .slice (some ⟨L.blk, L.off, none⟩) xs.length cp ∧ L.ext ≤ cp ∧ L.off + cp * 2 ≤ L.csz := fun u hu => by
          obtain ⟨L, j1, j2, j3, j4⟩ := hu.osl_inv
          rcases j4 with ⟨k1, _, z, rfl⟩ | ⟨cp, rfl, k1, k2, k3⟩
          · exact .inl ⟨List.length_eq_zero_iff.1 k1, _, rfl⟩
          · exact .inr ⟨b, L, cp, hb1, j1, by simp, by simpa using k2, by simpa using k3⟩
        rcases hb2 with hb2 | ⟨g, hg, hb2⟩
        · rw [hb2] at hva; exact osl _ hva
        · rw [hb2] at hva
          generalize act.eval a = u at hva
          generalize hn : xs.length = n at hva
          cases hva with
          | gsE => exact .inl ⟨List.length_eq_zero_iff.1 hn, _, rfl⟩
          | gs hva => rw [hg] at hva; subst hn; exact osl _ hva) (by rw [A.len]; exact room_of hroom) A.len A.el (fun j β hj hb => by
        obtain ⟨z, oz, Lz, k1, k2, k3, k4, k5⟩ := A.own j β hj hb
        exact ⟨z, oz, Lz, fun e => hdis z e k1, k2, k3, k4, k5⟩) A.inj (H' := happ s.H ((id, some (.deep (xs ++ ys) 0)) :: (eb ++ es))) (by
        show hget (happ (hset s.H id (.deep (xs ++ ys) 0)) (eb ++ es)) id = _
        rw [happ_ne _ _ _ (by rw [List.map_append, List.mem_append]; exact hidk), hget_hset, if_pos rfl]) (fun z oz hz hg => by
        rcases happ_keep _ hg with ⟨q1, q2⟩ | q1
        · have hz1 : z ∉ eb.map (·.1) := fun h => by
            obtain ⟨p, hp, e⟩ := List.mem_map.1 h
            obtain ⟨p1, p2⟩ := p
            cases e
            exact q2 p2 (by simp [hp])
          have hz2 : z ∉ es.map (·.1) := fun h => by
            obtain ⟨p, hp, e⟩ := List.mem_map.1 h
            obtain ⟨p1, p2⟩ := p
            cases e
            exact q2 p2 (by simp [hp])
          exact ⟨fun e => hz1 ((hmem z).1 e), A.rest z oz (.inr ⟨q1, hz2⟩)⟩
        · rcases List.mem_cons.1 q1 with e | q1
          · cases e; exact absurd rfl hz
          · rcases List.mem_append.1 q1 with q1 | q1
            · rw [← heb] at q1
              cases ob with
              | none => simp [obE] at q1
              | some b => simp [obE] at q1
            · exact ⟨fun e => hdis z e (List.mem_map.2 ⟨_, q1, rfl⟩), A.rest z oz (.inl q1)⟩)
    refine ⟨cv, m', w', ?_, g2, g3, g4, g5⟩
    refine .inl ?_
    simp only [execOp, Go.resolve, Sem.run_bind, Sem.run_pure, Result.andThen_ok, invoke]
    simp [builtin, g1]
  · exact h.elim

omit [Syms] in
theorem void_deep {xs : List Blk} {q : Nat} (h : Void (.deep xs q)) : xs = [] := by
  rcases h with ⟨t, h⟩ | ⟨t, h⟩ | ⟨t, h⟩
  · cases h
  · cases h
  · cases h; rfl

/-- An element is taken out, with its own row. -/
theorem SR.takeOut (hs : SR c m H F w) {id b i q : Nat} {xs : List Blk} {x : Blk} (hid : m id = none) (hidF : id ∉ F) (hb : hget H b = some (.deep xs q)) (hbF : b ∉ F) (hx : xs[i]? = some x) (hq : q ≤ i) :
    ∃ m', Ext c m H F w m' (hset (hset H id (.tarr .u8 x.data)) b (.deep xs (Nat.succ i))) F w ∧ SR c m' (hset (hset H id (.tarr .u8 x.data)) b (.deep xs (Nat.succ i))) F w ∧
      (∀ (ok ok' : Nat → Prop) (v : Value), VR ok w.heap m (.sub b i x.data.length) v → VR ok' w.heap m' (.gs .u8 id x.data.length) v) ∧ ∀ b, m' b ≠ none → m b ≠ none ∨ (id ≤ b ∧ b < id + STRIDE) := by
  have hil := (List.getElem?_eq_some_iff.1 hx).1
  obtain ⟨L, hL, hobj⟩ : ∃ L, m b = some L ∧ DeepR w.heap L xs q := by
    rcases hs.all b _ hb with ⟨L, h1, h2⟩ | ⟨_, h2⟩
    · exact ⟨L, h1, h2⟩
    · have := void_deep h2; subst this; simp at hx
  have hbi : b ≠ id := fun e => by rw [e, hid] at hL; cases hL
  obtain ⟨⟨d1, d2⟩, ⟨C, e, z, d3, d4, d5, d6, d7⟩, d8, d9⟩ := hobj
  obtain ⟨_, u, _, hsub⟩ := d7 i x hx hq
  obtain ⟨r1, r2, r3⟩ := hs.rest (b := b) (q := q) (q' := Nat.succ i) (xs := xs) (by omega)
  have hget' : ∀ y o, hget (hset (hset H id (.tarr .u8 x.data)) b (.deep xs (Nat.succ i))) y = some o → (y = b ∧ o = .deep xs (Nat.succ i)) ∨ (y = id ∧ o = .tarr .u8 x.data) ∨ (y ≠ b ∧ y ≠ id ∧ hget H y = some o) := fun y o h => by
    rw [hget_hset] at h
    by_cases e1 : b = y
    · rw [if_pos e1] at h; cases h; exact .inl ⟨e1.symm, rfl⟩
    · rw [if_neg e1, hget_hset] at h
      by_cases e2 : id = y
      · rw [if_pos e2] at h; cases h; exact .inr (.inl ⟨e2.symm, rfl⟩)
      · rw [if_neg e2] at h; exact .inr (.inr ⟨fun e => e1 e.symm, fun e => e2 e.symm, h⟩)
  have hgid : hget (hset (hset H id (.tarr .u8 x.data)) b (.deep xs (Nat.succ i))) id = some (.tarr .u8 x.data) := by
    rw [hget_hset, if_neg hbi, hget_hset, if_pos rfl]
  have others : ∀ (P2 : Loc → Nat → Prop), (∀ L2 β, L2 = L → fp (.deep xs (Nat.succ i)) L β → P2 L β) → (∀ y o L2 β, y ≠ b → hget H y = some o → m y = some L2 → fp o L2 β → P2 L2 β) → ∀ y o, y ≠ id → hget (hset (hset H id (.tarr .u8 x.data)) b (.deep xs (Nat.succ i))) y = some o →
      ∃ o0, hget H y = some o0 ∧ (∀ L β, fp o L β → fp o0 L β) ∧ (∀ ok hh mm L, ObjR ok hh mm L o0 → ObjR ok hh mm L o) ∧ (Void o0 → Void o) ∧ ∀ L2 β, m y = some L2 → fp o L2 β → P2 L2 β := fun P2 h1 h2 y o hy h => by
    rcases hget' y o h with ⟨rfl, rfl⟩ | ⟨rfl, _⟩ | ⟨k1, k2, k3⟩
    · exact ⟨_, hb, r1, r2, r3, fun L2 β hL2 hf => by rw [hL] at hL2; cases hL2; exact h1 L β rfl hf⟩
    · exact absurd rfl hy
    · exact ⟨o, k3, fun _ _ h => h, fun _ _ _ _ h => h, fun h => h, fun L2 β hL2 hf => h2 y o L2 β k1 k3 hL2 hf⟩
  cases hS : L.subs i with
  | none =>
    rw [hS] at hsub
    obtain ⟨hd0, _⟩ := hsub
    obtain ⟨hx', hsr⟩ := hs.remake hid (m' := m) (H' := hset (hset H id (.tarr .u8 x.data)) b (.deep xs (Nat.succ i))) (w' := w) (.inl rfl) ⟨rfl, rfl, rfl⟩ (Nat.le_refl _) (fun _ => False) (fun _ _ _ => rfl) (fun _ h => h.elim)
      (others (fun _ _ => ¬ False ∧ ∀ oi Li, hget (hset (hset H id (.tarr .u8 x.data)) b (.deep xs (Nat.succ i))) id = some oi → m id = some Li → ¬ fp oi Li _) (fun _ _ _ _ => ⟨fun h => h, fun oi Li _ h => by rw [hid] at h; cases h⟩) (fun _ _ _ _ _ _ _ _ => ⟨fun h => h, fun oi Li _ h => by rw [hid] at h; cases h⟩))
      (fun oi hoi => by
        rw [hgid] at hoi; cases hoi
        rw [hd0]; exact .inr ⟨hid, .inl ⟨.u8, rfl⟩⟩) hidF
    refine ⟨m, hx', hsr, fun ok ok' v hv => ?_, fun _ h => .inl h⟩
    generalize hn : x.data.length = n at hv ⊢
    cases hv with
    | subE h1 h2 => exact .gsE
    | sub h1 h2 => rw [hL] at h1; cases h1; rw [hS] at h2; cases h2
  | some S =>
    rw [hS] at hsub
    obtain ⟨_, h3, C', e', z', j1, j2, j3, j4, j5⟩ := hsub
    have hfpS : fp (.deep xs q) L S.blk := .inr ⟨xs, q, i, S, rfl, hq, hil, hS, rfl⟩
    have hfl : flat (encs .u8 x.data) = encs .u8 x.data := by
      generalize x.data = d
      induction d with
      | nil => rfl
      | cons a l ih => show (enc .u8 a).cells ++ flat (encs .u8 l) = _; rw [ih]; rfl
    obtain ⟨hx', hsr⟩ := hs.remake hid (m' := upd m id ⟨S.blk, S.off, 1, S.ext, S.csz, fun _ => none⟩) (H' := hset (hset H id (.tarr .u8 x.data)) b (.deep xs (Nat.succ i))) (w' := w) (.inr ⟨_, rfl⟩) ⟨rfl, rfl, rfl⟩ (Nat.le_refl _) (fun _ => False) (fun _ _ _ => rfl) (fun _ h => h.elim)
      (others (fun _ β => ¬ False ∧ ∀ oi Li, hget (hset (hset H id (.tarr .u8 x.data)) b (.deep xs (Nat.succ i))) id = some oi → upd m id ⟨S.blk, S.off, 1, S.ext, S.csz, fun _ => none⟩ id = some Li → ¬ fp oi Li β) (fun _ β _ hf => ⟨fun h => h, fun oi Li h1 h2 h4 => by
        rw [hgid] at h1; cases h1
        rw [upd_same] at h2; cases h2
        have h4 : S.blk = β := (flat_tarr _ _).fp h4
        rcases hf with hf | ⟨_, _, i', S', z1, z2, z3, z4, z5⟩
        · exact d8 i S hq hil hS (by rw [h4, hf])
        · cases z1
          have := d9 i' i S' S (by omega) hq z3 hil z4 hS (by rw [z5, h4])
          omega⟩) (fun y o L2 β hy k1 k2 k3 => ⟨fun h => h, fun oi Li h1 h2 h4 => by
        rw [hgid] at h1; cases h1
        rw [upd_same] at h2; cases h2
        have h4 : S.blk = β := (flat_tarr _ _).fp h4
        exact hy (hs.injf y o b _ L2 L β k1 hb k2 hL k3 (by rw [← h4]; exact hfpS))⟩))
      (fun oi hoi => by
        rw [hgid] at hoi; cases hoi
        refine .inl ⟨_, upd_same _ _ _, ?_, fun β hf => .inr ⟨b, _, L, hb, hbF, hL, ?_⟩⟩
        · refine ⟨rfl, Nat.one_pos, by rw [encs_length]; exact h3, encs_size .u8 x.data, C', e', z', j1, j2, j3, by rw [encs_length]; show S.off + x.data.length * 1 ≤ _; omega, fun k y hy => ?_⟩
          rw [hfl] at hy
          obtain ⟨hk, e1⟩ := List.getElem?_eq_some_iff.1 hy
          rw [encs_length] at hk
          have e2 : y = enc .u8 x.data[k] := by rw [← e1]; simp [encs]
          exact ⟨_, j5 k x.data[k] (List.getElem?_eq_getElem hk), by rw [e2]; exact .int .u8 _⟩
        · have h4 : S.blk = β := (flat_tarr _ _).fp hf
          rw [← h4]; exact hfpS) hidF
    refine ⟨_, hx', hsr, fun ok ok' v hv => ?_, dom_upd⟩
    generalize hn : x.data.length = n at hv ⊢
    cases hv with
    | subE h1 h2 => exact .gsE
    | sub h1 h2 k1 k2 k3 =>
      rw [hL] at h1; cases h1
      rw [hS] at h2; cases h2
      refine .gs ?_
      show VR _ _ _ (.osl 1 id 0 n) _
      exact .osl (upd_same _ _ _) (by rw [Nat.zero_add]; exact k1) Nat.one_pos rfl rfl (by simp) (by rw [Nat.zero_add]; exact k2) (by simpa using k3)

theorem dLoadC_some (hT : TyOK P S.T) {t : TypeId} {a : Operand} {els : Prop} (h : dLoadC S s id t k els (opnd s.fr a)) : els ∨ ∃ v e rd, k v e rd [] ∧ DStep P s id (.load t a) v e := by
  unfold dLoadC at h
  split at h
  · rename_i b i off ha
    split at h
    · rename_i xs q hb
      obtain ⟨hb, hbF⟩ := hlive_some hb
      generalize hB : (off.beq 0 && match S.T.ty.get t with
          | some j => j.ag && j.size.beq 2
          | none => false) = B at h
      cases B with
      | false => exact .inl h
      | true =>
        obtain ⟨h1, ⟨h2, h3⟩, h4⟩ := must_and h
        refine .inr ⟨_, _, _, h4, fun c m w act o ho hs hid hf => ?_⟩
        have hid := hid id (Nat.le_refl _) (by unfold STRIDE; omega)
        have hidF := (isIn_false id s.F).1 (by simpa using h1)
        rw [Bool.and_eq_true] at hB
        obtain ⟨hB1, hB2⟩ := hB
        have hB1 := beq_eq' hB1
        subst hB1
        have hx := getD_some (⟨0, []⟩ : Blk) h3
        obtain ⟨m', g1, g2, g3, g4⟩ := hs.takeOut hid hidF hb hbF hx h2
        have hld : aload S.T s.H t (.eptr b i 0) = some (.agg (subCells b i (xs.getD i ⟨0, []⟩))) := by
          split at hB2
          · rename_i j hj
            rw [Bool.and_eq_true] at hB2
            obtain ⟨hag, hsz⟩ := hB2
            have hsz := beq_eq' hsz
            simp only [aload, cellsAt, hb, hx, show Nat.ble q i = true from Nat.ble_eq_true_of_le h2, cond_true, takeT, hj, hag, hsz, takeCells]
            rfl
          · cases hB2
        have hva := opnd_vr hf a
        rw [ha] at hva
        obtain ⟨cv, k1, k2⟩ := sim_aload hT hs hld hva
        obtain ⟨dst, op, oty, pos, after, guard⟩ := o
        simp only at ho
        subst ho
        refine ⟨cv, m', w, .inl (run_value k1), g1, g2, ?_, g4⟩
        obtain ⟨us, rfl, q1, q2⟩ := k2.agg_inv
        refine .agg' q1 fun j y hy => ?_
        match j, hy with
        | 0, hy =>
          cases hy
          obtain ⟨u, q3, q4⟩ := q2 0 (.int .i64 _) rfl
          have := q4.int_inv
          exact ⟨u, q3, by rw [this]; exact .int _ _⟩
        | 1, hy =>
          cases hy
          obtain ⟨u, q3, q4⟩ := q2 1 (.sub b i _) rfl
          exact ⟨u, q3, g3 _ _ u q4⟩
        | j + 2, hy => simp at hy
    · exact .inl h
  · exact .inl h

theorem dStoreC_some (hT : TyOK P S.T) {t : TypeId} {a x : Operand} {els : Prop} (h : dStoreC S s t k els (opnd s.fr x) (opnd s.fr a)) : els ∨ ∃ v e rd, k v e rd [] ∧ DStep P s id (.store t a x) v e := by
  unfold dStoreC at h
  split at h
  · rename_i b i j ha
    split at h
    · rename_i xs q hb
      obtain ⟨hb, hbF⟩ := hlive_some hb
      obtain ⟨h1, h⟩ := must_and h
      unfold decB at h
      split at h
      · rename_i n hxv
        obtain ⟨⟨n0, n1⟩, ⟨h2, h3, h4⟩, hk⟩ := h
        refine .inr ⟨_, _, _, hk, fun c m w act o ho hs hid hf => ?_⟩
        obtain ⟨inf, hinf, hisz⟩ : ∃ inf, P.info? t = some inf ∧ inf.size = 1 := by
          split at h1
          · rename_i n' hn'
            obtain ⟨inf, k1, k2⟩ := szOf_some hT hn'
            have h1 := beq_eq' h1
            exact ⟨inf, k1, by omega⟩
          · cases h1
        have hx := getD_some (⟨0, []⟩ : Blk) h3
        generalize xs.getD i ⟨0, []⟩ = x at *
        have hva := opnd_vr hf a
        have hvx := opnd_vr hf ‹Operand›
        rw [ha] at hva
        rw [hxv] at hvx
        have hxi := hvx.int_inv
        obtain ⟨L, S', hL, hS, hau⟩ : ∃ L S', m b = some L ∧ L.subs i = some S' ∧ act.eval a = .pointer (some ⟨S'.blk, S'.off + j, none⟩) := by
          generalize act.eval a = u at hva
          cases hva with
          | psub k1 k2 => exact ⟨_, _, k1, k2, rfl⟩
        obtain ⟨⟨d1, d2⟩, ⟨C, e, z, d3, d4, d5, d6, d7⟩, d8, d9⟩ : DeepR w.heap L xs q := hs.objm hb hL
        obtain ⟨_, u, _, hsub⟩ := d7 i x hx h2
        rw [hS] at hsub
        obtain ⟨_, s3, C', e', z', j1, j2, j3, j4, j5⟩ := hsub
        have hrun := run_stored (P := P) (w := w) (β := S'.blk) (o := S'.off + j) j1 j3 hinf (v := .int .u8 n) (by rw [hisz]; rfl) (by omega) (fun y hy => by
          have : y = .int .u8 n := by simpa [Value.cells] using hy
          rw [this]; rfl)
        obtain ⟨al, asz⟩ := setCells_alike (Value.int .u8 n).cells.toList w S'.blk (S'.off + j)
        have hfpS : fp (.deep xs q) L S'.blk := .inr ⟨xs, q, i, S', rfl, h2, h3, hS, rfl⟩
        have hhd : ∀ γ, γ ≠ S'.blk → (w.setCells S'.blk (S'.off + j) (Value.int .u8 n).cells.toList).heap[γ]? = w.heap[γ]? := fun γ hγ => heap_setCells_ne _ _ _ _ _ hγ
        obtain ⟨hx', hsr⟩ := hs.writeG hb hbF hL al asz (o' := .deep (xs.set i ⟨x.pos, x.data.set j (UInt8.ofNat n.toNat)⟩) q) (fun γ hγ => hhd γ fun e => hγ (by rw [e]; exact hfpS)) (fun β hβ => by
          rcases hβ with hβ | ⟨_, _, i', S2, z1, z2, z3, z4, z5⟩
          · exact .inl hβ
          · cases z1; rw [List.length_set] at z3; exact .inr ⟨xs, q, i', S2, rfl, z2, z3, z4, z5⟩)
        have hcell : Value.int .u8 n = .int .u8 ((UInt8.ofNat n.toNat).toNat : Int) := by
          obtain ⟨n', rfl⟩ := Int.eq_ofNat_of_zero_le n0
          have : n' < 256 := by omega
          simp [Nat.mod_eq_of_lt this]
        have hsr := hsr (by
          refine ⟨⟨d1, by rw [List.length_set]; exact d2⟩, ⟨C, e, z, by rw [hhd _ (fun e => d8 i S' h2 h3 hS e.symm)]; exact d3, d4, d5, by rw [List.length_set]; exact d6, fun i' y hy hi' => ?_⟩, fun i' S2 g1 g2 => by rw [List.length_set] at g2; exact d8 i' S2 g1 g2, fun i1 i2 S1 S2 g1 g2 g3 g4 => by rw [List.length_set] at g3 g4; exact d9 i1 i2 S1 S2 g1 g2 g3 g4⟩
          rw [List.getElem?_set] at hy
          by_cases hii : i = i'
          · subst hii
            rw [if_pos rfl, if_pos h3] at hy
            cases hy
            obtain ⟨y1, v, y2, y3⟩ := d7 i x hx h2
            rw [hS] at y3
            obtain ⟨⟨cc, y4, y5, y6⟩, y7, _⟩ := y3
            refine ⟨y1, v, y2, ?_⟩
            rw [hS]
            refine ⟨⟨cc, by rw [List.length_set]; exact y4, y5, y6⟩, by rw [List.length_set]; exact y7, _, _, _, heap_setCells _ j1 _, by rw [size_setArr]; exact j2, by rw [NoFz, size_setArr]; exact j3, by rw [size_setArr, List.length_set]; exact j4, fun k b hb => ?_⟩
            have hsz1 : (Value.int .u8 n).cells.toList.length = 1 := rfl
            rw [getElem?_setArr _ _ _ _ (by rw [hsz1]; omega), hsz1]
            rw [List.getElem?_set] at hb
            by_cases hjk : j = k
            · subst hjk
              rw [if_pos rfl, if_pos h4] at hb
              cases hb
              rw [if_pos (by omega), Nat.sub_self, ← hcell]
              rfl
            · rw [if_neg hjk] at hb
              rw [if_neg (by omega)]
              exact j5 k b hb
          · rw [if_neg hii] at hy
            obtain ⟨y1, v, y2, y3⟩ := d7 i' y hy hi'
            have hi'l := (List.getElem?_eq_some_iff.1 hy).1
            exact ⟨y1, v, y2, y3.keep fun S2 hS2 => hhd _ fun e => hii (d9 i i' S' S2 h2 hi' h3 hi'l hS hS2 e.symm)⟩)
        obtain ⟨dst, op, oty, pos, after, guard⟩ := o
        simp only at ho
        subst ho
        refine ⟨undef, m, _, .inr ⟨?_, rfl⟩, hx', hsr, und_vr, fun _ h => .inl h⟩
        simp only [execOp]
        rw [hau, hxi]
        exact run_unit hrun
      · exact h.elim
    · exact h.elim
  · exact .inl h

theorem dSliceC_some (hT : TyOK P S.T) {t : TypeId} {x : Operand} {lo hi : Option Operand} {els : Prop} (h : dSliceC S s t k els (mapO s.fr lo) (mapO s.fr hi) (opnd s.fr x)) : els ∨ ∃ v e rd, k v e rd [] ∧ DStep P s id (.slice t x lo hi none) v e := by
  unfold dSliceC at h
  split at h
  · rename_i g b n hx
    split at h
    · obtain ⟨h1, h⟩ := must_and h
      obtain ⟨e, k1, k2, k3⟩ := elemN_some h1
      split at h
      · rename_i l hh hl hhi
        obtain ⟨hb, h4, h5⟩ := h
        have done : ∀ (x' v : AV), (∀ ok hp mm u, VR ok hp mm (opnd s.fr x) u → VR ok hp mm x' u) → aslice S.T t x' (mapO s.fr lo) (mapO s.fr hi) none = some v → DStep P s id (.slice t x lo hi none) v [] := by
          intro x' v hle hsl c m w act o ho hs hid hf
          obtain ⟨cv, g1, g2⟩ := sim_slice hT hsl (hle _ _ _ _ (opnd_vr hf x)) (mapO_vr hf lo) (mapO_vr hf hi) (mapO_vr hf none)
          obtain ⟨dst, op, oty, pos, after, guard⟩ := o
          simp only at ho
          subst ho
          exact ⟨cv, m, w, .inl (run_value g1), Done.quiet hs g2⟩
        rcases Nat.eq_zero_or_pos n with h0 | h0
        · refine .inr ⟨_, _, _, h4 h0, done (.sl []) _ (fun ok hp mm u hu => ?_) ?_⟩
          · rw [hx, h0] at hu
            cases hu with
            | gsE => exact .slE fun _ => rfl
            | gs hu =>
              cases hu with
              | oslE _ _ _ _ => exact .slE nofun
              | osl _ _ _ _ _ _ _ _ => exact .slE nofun
          · obtain ⟨m', hm'⟩ : ∃ m', g.size = m' + 1 := ⟨g.size - 1, by omega⟩
            have hbd := bnds_of (n := 0) hl (by rw [h0] at hhi; exact hhi) (by omega)
            simp only [aslice, k1, k2, hm', asliceV, hbd]
        · refine .inr ⟨_, _, _, h5 h0, done (opnd s.fr x) _ (fun _ _ _ _ h => h) ?_⟩
          obtain ⟨m', hm'⟩ : ∃ m', g.size = m' + 1 := ⟨g.size - 1, by omega⟩
          obtain ⟨n', rfl⟩ : ∃ n', n = n' + 1 := ⟨n - 1, by omega⟩
          have hbd := bnds_of hl hhi hb
          simp only [aslice, hx, k1, k2, hm', asliceV, hbd, beq_same, cond_true, Nat.zero_add]
      · exact h.elim
    · exact .inl h
  · exact .inl h

omit [Syms] in
theorem flat_encs_take (g : GT) (l : List g.T) (n : Nat) : encs g (l.take n) = (encs g l).take n := by
  simp [encs, List.map_take]

theorem SR.shrinkD (hs : SR c m H F w) {b nx len : Nat} {g : GT} {l : List g.T} (hb : hget H b = some (.tarr g l)) (hF : b ∉ F) (hid : m nx = none) (hlen : len ≤ l.length) {cv : Value} (hv : VR (okB c.X m H F) w.heap m (.osl g.size b 0 len) cv) :
    ∃ m', Ext c m H F w m' (hdel (hset H nx (.tarr g (l.take len))) b) F w ∧ SR c m' (hdel (hset H nx (.tarr g (l.take len))) b) F w ∧ VR (okB c.X m' (hdel (hset H nx (.tarr g (l.take len))) b) F) w.heap m' (.gs g nx len) cv ∧ ∀ z, m' z ≠ none → m z ≠ none ∨ (nx ≤ z ∧ z < nx + STRIDE) := by
  obtain ⟨L, j1, j2, j3, jv⟩ := hv.osl_inv
  obtain ⟨a1, a2, a3, a4, C, e, z, c1, c2, c3, c4, c5⟩ : ArrR (okB c.X m H F) w.heap m L g.size (encs g l) := hs.objm hb j1
  rw [encs_length] at a3 c4
  have hle : len * g.size ≤ l.length * g.size := Nat.mul_le_mul_right _ hlen
  obtain ⟨hx, hsr⟩ := hs.move hb hF j1 hid (L' := ⟨L.blk, L.off, g.size, len, L.csz, fun _ => none⟩) rfl (w' := w) ⟨rfl, rfl, rfl⟩ rfl (fun _ _ => rfl) (o' := .tarr g (l.take len))
  have htl : (l.take len).length = len := by rw [List.length_take]; omega
  have hcr : CR (okB c.X m H F) w.heap m (flat (encs g (l.take len))) C L.off := by
    intro q x hq
    rw [flat_encs_take, flat_take len a4, List.getElem?_take] at hq
    split at hq
    · exact c5 q x hq
    · cases hq
  refine ⟨_, hx, hsr ⟨rfl, a2, by rw [encs_length, htl], fun x hx => a4 x (by rw [flat_encs_take] at hx; exact List.mem_of_mem_take hx), C, e, z, c1, c2, c3, by rw [encs_length, htl]; show L.off + len * g.size ≤ C.size; omega, hcr.mono hx.kk hx.mm⟩, ?_, dom_upd⟩
  rcases jv with ⟨rfl, _, a, rfl⟩ | ⟨cp, rfl, g1, g2, g3⟩
  · exact .gsE
  · exact .gs (.osl (upd_same _ _ _) (by show 0 + len ≤ len; omega) a2 rfl rfl rfl (by show len ≤ 0 + cp; omega) g3)

theorem SR.shrink (hs : SR c m H F w) {b nx len : Nat} {g : GT} {l : List g.T} (hb : hget H b = some (.tarr g l)) (hF : b ∉ F) (hid : m nx = none) (hlen : len ≤ l.length) {cv : Value} (hv : VR (okB c.X m H F) w.heap m (.osl g.size b 0 len) cv) :
    ∃ m', Ext c m H F w m' (hdel (hset H nx (.tarr g (l.take len))) b) F w ∧ SR c m' (hdel (hset H nx (.tarr g (l.take len))) b) F w ∧ VR (okB c.X m' (hdel (hset H nx (.tarr g (l.take len))) b) F) w.heap m' (.gs g nx len) cv:= by
  obtain ⟨m', h1, h2, h3, _⟩ := hs.shrinkD hb hF hid hlen hv
  exact ⟨m', h1, h2, h3⟩

theorem shrC_some (hT : TyOK P S.T) {op : Op} {els : Prop} (h : shrC S op s id k els) : els ∨ ∃ v e rd, k v e rd [] ∧ DStep P s id op v e := by
  unfold shrC at h
  cases hsh : S.sh with
  | false => rw [hsh] at h; exact .inl h
  | true =>
    rw [hsh] at h
    simp only [opndK_eq] at h
    split at h
    · rename_i t x hi
      unfold dShrC at h
      split at h
      · rename_i g b n hx
        split at h
        · rename_i g' l hb
          obtain ⟨hb, hbF⟩ := hlive_some hb
          obtain ⟨h1, h⟩ := must_and h
          simp only [Bool.and_eq_true, Bool.not_eq_true'] at h1
          obtain ⟨a1, a2, a3⟩ := h1
          have a2 := beq_eq' a2
          have hidF := (isIn_false id s.F).1 a3
          obtain ⟨e, k1, k2, k3⟩ := elemN_some a1
          split at h
          · rename_i hh hhi
            obtain ⟨⟨b1, b2, b3⟩, hk⟩ := h
            refine .inr ⟨_, _, _, hk, fun c m w act o ho hs hid hf => ?_⟩
            have hid := hid id (Nat.le_refl _) (by unfold STRIDE; omega)
            obtain ⟨dst, op, oty, pos, after, guard⟩ := o
            simp only at ho
            subst ho
            have hvx := opnd_vr hf x
            rw [hx] at hvx
            obtain ⟨m', hm'⟩ : ∃ m', g.size = m' + 1 := ⟨g.size - 1, by omega⟩
            have hbd := bnds_of (lo := (none : Option AV)) (l := 0) rfl hhi ⟨Int.le_refl _, b2, b3⟩
            have osl : VR (okB c.X m s.H s.F) w.heap m (.osl g.size b 0 n) (act.eval x) → ∃ cv m' w', OpRun P act ⟨dst, .slice t x none hi none, oty, pos, after, guard⟩ w cv w' ∧ Done c m s.H s.F w id (.gs g' id hh.toNat) [(id, some (.tarr g' (l.take hh.toNat))), (b, none)] [] cv m' w' := fun hv => by
              have hsl : aslice S.T t (.osl g.size b 0 n) none (mapO s.fr hi) none = some (.osl g.size b 0 hh.toNat) := by
                simp only [aslice, k1, k2, hm', asliceV, hbd, beq_same, cond_true]
                simp
              obtain ⟨cv, g1, g2⟩ := sim_slice (lo := none) (clo := none) (mx := none) (cmx := none) hT hsl hv trivial (mapO_vr hf hi) trivial
              rw [← a2] at g2
              obtain ⟨m2, q1, q2, q3, q4⟩ : ∃ m', Ext c m s.H s.F w m' (hdel (hset s.H id (.tarr g' (l.take hh.toNat))) b) s.F w ∧ SR c m' (hdel (hset s.H id (.tarr g' (l.take hh.toNat))) b) s.F w ∧ VR (okB c.X m' (hdel (hset s.H id (.tarr g' (l.take hh.toNat))) b) s.F) w.heap m' (.gs g' id hh.toNat) cv ∧ ∀ z, m' z ≠ none → m z ≠ none ∨ (id ≤ z ∧ z < id + STRIDE) :=
                hs.shrinkD hb hbF hid (by omega) g2
              exact ⟨cv, m2, w, .inl (run_value g1), q1, q2, q3, q4⟩
            generalize hu : act.eval x = u at hvx
            cases hvx with
            | gsE =>
              have hl0 : l = [] := List.length_eq_zero_iff.1 b1.symm
              have hh0 : hh = 0 := by omega
              subst hl0; subst hh0
              have hsl : aslice S.T t .emp none (mapO s.fr hi) none = some .emp := by
                simp only [aslice, k1, k2, hm', asliceV, hbd]
              obtain ⟨cv, g1, g2⟩ := sim_slice (lo := none) (clo := none) (mx := none) (cmx := none) hT hsl (vx := act.eval x) (hx := by rw [hu]; exact .emp) trivial (mapO_vr hf hi) trivial
              obtain ⟨x1, x2⟩ := hs.void hid g'
              obtain ⟨y1, y2⟩ := x2.del b
              refine ⟨cv, m, w, .inl (run_value g1), x1.trans y1, y2, ?_, fun _ h => .inl h⟩
              cases g2
              exact .gsE
            | gs hv => exact osl (by rw [hu]; exact hv)
          · exact h.elim
        · exact .inl h
      · exact .inl h
    · exact .inl h

/-- An operation on a row whose elements' rows are one's own. -/
theorem deepC_some (hT : TyOK P S.T) {op : Op} {els : Prop} (h : deepC S op s id k els) : els ∨ ∃ v e rd, k v e rd [] ∧ DStep P s id op v e := by
  unfold deepC at h
  cases hdp : S.dp with
  | false => rw [hdp] at h; exact shrC_some hT h
  | true =>
    rw [hdp] at h
    simp only [opndK_eq] at h
    split at h
    · rename_i args ts
      split at h
      · rename_i a x hargs
        have : args = #[a, x] := by rw [← Array.toArray_toList (xs := args), hargs]
        subst this
        cases hB : dIsB s.H (opnd s.fr x) (opnd s.fr a) with
        | false => rw [hB] at h; exact .inl h
        | true => rw [hB] at h; exact .inr (dAppC_some hT h)
      · exact .inl h
    · exact dLoadC_some hT h
    · exact dStoreC_some hT h
    · exact dSliceC_some hT h
    · exact .inl h

end
end Go.Proofs.Ytmkmjjodiicmlaa.VS

