/- A library of an abstract machine, joined from 4 texts. Conditions: none. -/
import Derived.Test.YtmkmjjodiicmlaaVM3
import Derived.MapKept
set_option linter.unusedVariables false
set_option linter.unusedSimpArgs false
set_option linter.unusedSectionVars false
/- Maps, lengths, and what only passes values on: what each leaves, on both sides. Conditions: none. -/
namespace Go.Proofs.Ytmkmjjodiicmlaa.VS
variable [Syms]

section
variable {P : Program} {T : Tabs} {c : Ctx} {m : Map} {H : Heap} {F : List Nat} {w : World}

omit [Syms] in
theorem mapT_some (hT : TyOK P T) {t : TypeId} {ke : TypeId × TypeId} (h : mapT T t = some ke) : P.underlying t = some (.map ke.1 ke.2) ∧ ((∃ k, kindOf T ke.1 = .int k) ∨ kindOf T ke.1 = .str) := by
  unfold mapT at h
  split at h
  · rename_i k e hk
    split at h
    · rename_i i hi; cases h; exact ⟨kind_map hT hk, .inl ⟨i, hi⟩⟩
    · rename_i hi; cases h; exact ⟨kind_map hT hk, .inr hi⟩
    · cases h
  · cases h

theorem VR.int_inv {ok : Nat → Prop} {h : Array Obj} {k : IntKind} {n : Int} {v : Value} (H : VR ok h m (.int k n) v) : v = .int k n := by cases H; rfl

/-- A key, on both sides. -/
inductive KeyR : TypeDesc → AV → Value → Prop
  | int (j k : IntKind) (n : Int) : KeyR (.int j) (.int k n) (.int k n)
  | str (l : List UInt8) (s : ByteArray) : s.data.toList = l → KeyR .string (.str l) (.string s)

theorem keyFits_some (hT : TyOK P T) {kt : TypeId} {k : AV} (h : keyFits (kindOf T kt) k = true) {ok : Nat → Prop} {vk : Value} (hk : VR ok w.heap m k vk) :
    ∃ d, P.underlying kt = some d ∧ KeyR d k vk := by
  generalize hK : kindOf T kt = K at h
  unfold keyFits at h
  split at h
  · cases hk; exact ⟨_, kind_int hT hK, .int _ _ _⟩
  · obtain ⟨s, rfl, hs⟩ := hk.str_inv
    exact ⟨_, kind_str hT hK, .str _ _ hs⟩
  · cases h

omit [Syms] in
theorem KeyR.check {d : TypeDesc} {k : AV} {vk : Value} (h : KeyR d k vk) {kt : TypeId} (hd : P.underlying kt = some d) (e : Bool) (n : Nat) : (Instr.checkKey e (n + 1) kt vk).run P w = .ok () w := by
  unfold Instr.checkKey
  cases h <;> simp [run_underlying hd]

omit [Syms] in
theorem bytes_same {a b : ByteArray} {x y : List UInt8} (ha : a.data.toList = x) (hb : b.data.toList = y) : (a == b) = decide (x = y) := by
  cases hd : decide (x = y) with
  | true =>
    have := of_decide_eq_true hd
    rw [MapKept.bytes_beq]
    have hl : a.data.toList = b.data.toList := by rw [ha, hb, this]
    cases a; cases b; simp only at hl ⊢
    rw [Array.toList_inj.1 hl]
  | false =>
    have := of_decide_eq_false hd
    cases hab : a == b with
    | false => rfl
    | true =>
      rw [MapKept.bytes_beq] at hab
      subst hab
      exact absurd (ha.symm.trans hb) this

theorem sim_akey {ok : Nat → Prop} {d : TypeDesc} {k : AV} {vk : Value} (hk : KeyR d k vk) : ∀ (es : List (AV × AV)) (ents : List MapEntry) (n : Nat) (r : Option (Nat × AV)), ents.length = es.length →
    (∀ (j : Nat) (p : AV × AV), es[j]? = some p → ∃ q : MapEntry, ents[j]? = some q ∧ VR ok w.heap m p.1 q.key ∧ VR ok w.heap m p.2 q.val) → akey es k n = some r →
    match r with
    | some q => ∃ (j : Nat) (e : MapEntry), q.1 = n + j ∧ ents[j]? = some e ∧ Instr.findNow d vk ents n = some (some (q.1, e.val)) ∧ VR ok w.heap m q.2 e.val ∧ KeyR d k e.key
    | none => Instr.findNow d vk ents n = some none
  | [], ents, n, r, hl, _, h => by
    have : ents = [] := List.length_eq_zero_iff.1 (by simpa using hl)
    subst this
    cases hk <;> (simp [akey] at h; subst h; rfl)
  | p :: es, [], _, _, hl, _, _ => by simp at hl
  | (a, v) :: es, e :: ents, n, r, hl, hv, h => by
    obtain ⟨q, hq, h1, h2⟩ := hv 0 (a, v) rfl
    simp at hq; subst hq
    have ih := fun (r : Option (Nat × AV)) (h' : akey es k (n + 1) = some r) => sim_akey hk es ents (n + 1) r (by simpa using hl) (fun j p hp => hv (j + 1) p hp) h'
    have step : ∀ r : Option (Nat × AV), akey es k (n + 1) = some r → Instr.findNow d vk (e :: ents) n = Instr.findNow d vk ents (n + 1) →
        match r with
        | some q => ∃ (j : Nat) (e' : MapEntry), q.1 = n + j ∧ (e :: ents)[j]? = some e' ∧ Instr.findNow d vk (e :: ents) n = some (some (q.1, e'.val)) ∧ VR ok w.heap m q.2 e'.val ∧ KeyR d k e'.key
        | none => Instr.findNow d vk (e :: ents) n = some none := by
      intro r hr he
      have := ih r hr
      rw [he]
      cases r with
      | none => exact this
      | some q =>
        obtain ⟨j, e', g1, g2, g3, g4, g5⟩ := this
        exact ⟨j + 1, e', by omega, by simpa using g2, g3, g4, g5⟩
    cases hk with
    | int i j b =>
      cases a <;> simp only [akey] at h <;> try (cases h; done)
      rename_i j' a'
      have h1 := h1.int_inv
      split at h
      · rename_i hj
        subst hj
        split at h
        · rename_i hab
          subst hab
          cases h
          exact ⟨0, e, by simp, rfl, by simp [Instr.findNow, Instr.sameNow, h1], h2, by rw [h1]; exact .int _ _ _⟩
        · rename_i hab
          exact step r h (by simp [Instr.findNow, Instr.sameNow, h1, beq_false_of_ne (Ne.symm hab)])
      · cases h
    | str l s hs =>
      cases a <;> simp only [akey] at h <;> try (cases h; done)
      rename_i a'
      obtain ⟨s', h1, hs'⟩ := h1.str_inv
      have hb := bytes_same hs hs'
      split at h
      · rename_i hab
        subst hab
        cases h
        exact ⟨0, e, by simp, rfl, by simp [Instr.findNow, Instr.sameNow, h1, hb], h2, by rw [h1]; exact .str _ _ hs'⟩
      · rename_i hab
        exact step r h (by simp [Instr.findNow, Instr.sameNow, h1, hb, Ne.symm hab])

theorem mapOf_some (hs : SR c m H F w) {x : AV} {es : List (AV × AV)} (h : mapOf H x = some es) {vx : Value} (hx : VR (okB c.X m H F) w.heap m x vx) :
    (es = [] ∧ vx = .map none) ∨ ∃ (r : Nat) (ents : Array MapEntry) (k : Nat), vx = .map (some r) ∧ w.heap[r]? = some (.map ents k) ∧ ents.size = es.length ∧
      ∀ (j : Nat) (p : AV × AV), es[j]? = some p → ∃ q : MapEntry, ents[j]? = some q ∧ VR (okB c.X m H F) w.heap m p.1 q.key ∧ VR (okB c.X m H F) w.heap m p.2 q.val := by
  unfold mapOf at h
  split at h
  · cases h; cases hx; exact .inl ⟨rfl, rfl⟩
  · rename_i b
    split at h
    · rename_i es' hb
      cases h
      obtain ⟨L, h1, ents, k, h2, h3, h4⟩ := hs.obj b _ hb
      cases hx with
      | mp g1 g2 =>
        rw [h1] at g1; cases g1; subst g2
        exact .inr ⟨_, ents, k, rfl, h2, h3, h4⟩
    · cases h
  · cases h

theorem sim_lookup (hT : TyOK P T) (hs : SR c m H F w) {t : TypeId} {x k v : AV} {ok : Bool} (h : alookup T H t x k ok = some v) {vx vk : Value} (hx : VR (okB c.X m H F) w.heap m x vx) (hk : VR (okB c.X m H F) w.heap m k vk) :
    ∃ cv, (Instr.lookup t vx vk ok).run P w = .ok cv w ∧ VR (okB c.X m H F) w.heap m v cv := by
  unfold alookup at h
  split at h
  · rename_i ke hke
    obtain ⟨hu, _⟩ := mapT_some hT hke
    split at h
    · rename_i z es hz hes
      obtain ⟨i, zv, hi, hzv, rfl⟩ := zeroOf_some hT hz
      cases hf : keyFits (kindOf T ke.1) k with
      | false => simp [hf] at h
      | true =>
        simp only [hf, cond_true] at h
        obtain ⟨d, hd, hkr⟩ := keyFits_some hT hf hk
        have fin : ∀ (ents : Array MapEntry), (∀ (e : Bool), (Instr.checkKey e 10000 ke.1 vk).run P w = .ok () w) →
            (vx = .map none ∧ ents = #[] ∨ ∃ r cl, vx = .map (some r) ∧ w.heap[r]? = some (.map ents cl)) → ents.size = es.length →
            (∀ (j : Nat) (p : AV × AV), es[j]? = some p → ∃ q : MapEntry, ents[j]? = some q ∧ VR (okB c.X m H F) w.heap m p.1 q.key ∧ VR (okB c.X m H F) w.heap m p.2 q.val) →
            ∃ cv, (Instr.lookup t vx vk ok).run P w = .ok cv w ∧ VR (okB c.X m H F) w.heap m v cv := by
          intro ents hck hvx hsz hent
          unfold found at h
          split at h
          · rename_i p hp
            cases h
            obtain ⟨j, e, g1, g2, g3, g4, _⟩ := sim_akey hkr es ents.toList 0 _ (by simpa using hsz) (fun j p hp => by simpa using hent j p hp) hp
            have hfk := MapKept.run_findKey (P := P) (w := w) hd g3
            refine ⟨if ok then .tuple #[e.val, .bool true] else e.val, ?_, ?_⟩
            · rcases hvx with ⟨rfl, rfl⟩ | ⟨r, cl, rfl, hr⟩
              · simp at g2
              · simp only [Instr.lookup, Sem.run_bind, run_underlying hu, Result.andThen_ok, MapKept.run_getObj_map hr, Sem.run_pure, hck, hfk]
            · cases ok
              · exact g4
              · exact .tup' rfl fun j x hx => by
                  match j with
                  | 0 => simp at hx; subst hx; exact ⟨_, rfl, g4⟩
                  | 1 => simp at hx; subst hx; exact ⟨_, rfl, .bool _⟩
                  | j + 2 => simp at hx
          · rename_i hp
            cases h
            have g3 := sim_akey hkr es ents.toList 0 _ (by simpa using hsz) (fun j p hp => by simpa using hent j p hp) hp
            have hfk := MapKept.run_findKey (P := P) (w := w) hd g3
            refine ⟨if ok then .tuple #[zv, .bool false] else zv, ?_, ?_⟩
            · rcases hvx with ⟨rfl, rfl⟩ | ⟨r, cl, rfl, hr⟩
              · simp only [Instr.lookup, Sem.run_bind, run_underlying hu, Result.andThen_ok, Sem.run_pure, hck, hfk, run_zeroValue hi hzv]
              · simp only [Instr.lookup, Sem.run_bind, run_underlying hu, Result.andThen_ok, MapKept.run_getObj_map hr, Sem.run_pure, hck, hfk, run_zeroValue hi hzv]
            · cases ok
              · exact ofV_vr _
              · exact .tup' rfl fun j x hx => by
                  match j with
                  | 0 => simp at hx; subst hx; exact ⟨_, rfl, ofV_vr _⟩
                  | 1 => simp at hx; subst hx; exact ⟨_, rfl, .bool _⟩
                  | j + 2 => simp at hx
          · cases h
        rcases mapOf_some hs hes hx with ⟨rfl, rfl⟩ | ⟨r, ents, cl, rfl, h1, h2, h3⟩
        · exact fin #[] (fun e => hkr.check hd e 9999) (.inl ⟨rfl, rfl⟩) rfl (fun j p hp => by simp at hp)
        · exact fin ents (fun e => hkr.check hd e 9999) (.inr ⟨r, cl, rfl, h1⟩) h2 h3
    · cases h
  · cases h

omit [Syms] in
theorem KeyR.uniq {d : TypeDesc} {k : AV} {a b : Value} (h : KeyR d k a) (g : KeyR d k b) : a = b := by
  cases h with
  | int i j n => cases g; rfl
  | str l s hs =>
    cases g with
    | str _ s' hs' =>
      have : s = s' := by
        cases s; cases s'
        have := hs.trans hs'.symm
        simp only [Array.toList_inj] at this
        rw [this]
      rw [this]

omit [Syms] in
theorem KeyR.stays {d : TypeDesc} {k : AV} {a : Value} (h : KeyR d k a) : (Instr.keyThatStays a a).run P w = .ok a w := by
  have hb : Instr.sameBits 10000 a a = true := by
    cases h with
    | int i j n => simp [Instr.sameBits]
    | str l s hs => simp only [Instr.sameBits]; rw [MapKept.bytes_beq]
  simp [Instr.keyThatStays, hb]

theorem KeyR.vr {d : TypeDesc} {k : AV} {a : Value} (h : KeyR d k a) {ok : Nat → Prop} {hp : Array Obj} : VR ok hp m k a := by
  cases h with
  | int i j n => exact .int _ _
  | str l s hs => exact .str _ _ hs

omit [Syms] in
theorem setObj_facts {r : Nat} {o o' : Obj} (hb : w.heap[r]? = some o) : Alike w { w with heap := w.heap.setIfInBounds r o' } ∧ ({ w with heap := w.heap.setIfInBounds r o' } : World).heap.size = w.heap.size ∧
    ({ w with heap := w.heap.setIfInBounds r o' } : World).heap[r]? = some o' ∧ ∀ β, β ≠ r → ({ w with heap := w.heap.setIfInBounds r o' } : World).heap[β]? = w.heap[β]? :=
  ⟨⟨rfl, rfl, rfl⟩, by simp, (MapKept.heap_set hb).1, (MapKept.heap_set hb).2⟩

theorem sim_mapUpdate (hT : TyOK P T) (hs : SR c m H F w) {id : Nat} {t : TypeId} {x k y : AV} {p : Nat × AObj} (h : amapUpdate T H F t x k y = some p)
    {vx vk vy : Value} (hx : VR (okB c.X m H F) w.heap m x vx) (hk : VR (okB c.X m H F) w.heap m k vk) (hy : VR (okB c.X m H F) w.heap m y vy) :
    ∃ w', (Instr.mapUpdate t vx vk vy).run P w = .ok () w' ∧ Done c m H F w id und [(p.1, some p.2)] [] undef m w' := by
  unfold amapUpdate at h
  split at h
  · rename_i ke b hke
    obtain ⟨hu, _⟩ := mapT_some hT hke
    split at h
    · rename_i es hb
      obtain ⟨hb, hbF⟩ := hlive_some hb
      cases hf : keyFits (kindOf T ke.1) k with
      | false => simp [hf] at h
      | true =>
        simp only [hf, cond_true] at h
        obtain ⟨d, hd, hkr⟩ := keyFits_some hT hf hk
        obtain ⟨L, hm, ents, cl, e1, e2, e3⟩ := hs.obj b _ hb
        cases hx with
        | mp g1 g2 =>
          rw [hm] at g1; cases g1; subst g2
          have run1 : ∀ {a : Option (Nat × Value)}, (Instr.findKey ke.1 vk ents.toList).run P w = .ok a w → ∀ w' (u : Unit),
              (match a with
                | some (i, _) => do
                  let key ← Instr.keyThatStays (((ents[i]?).map (·.key)).getD vk) vk
                  setObj L.blk (.map (ents.modify i fun e => { e with key, val := vy }) cl)
                | none => setObj L.blk (.map (ents.push { key := vk, val := vy, born := cl }) (cl + 1)) : Sem Unit).run P w = .ok u w' →
              (Instr.mapUpdate t (.map (some L.blk)) vk vy).run P w = .ok u w' := by
            intro a ha w' u hrun
            simp only [Instr.mapUpdate, Sem.run_bind, run_underlying hu, Result.andThen_ok, MapKept.run_getObj_map e1, hkr.check hd false 9999, ha]
            exact hrun
          split at h
          · rename_i q hq
            cases h
            obtain ⟨j, e, g1, g2, g3, g4, g5⟩ := sim_akey hkr es ents.toList 0 _ (by simpa using e2) (fun j p hp => by simpa using e3 j p hp) hq
            rw [Nat.zero_add] at g1
            subst g1
            rw [Array.getElem?_toList] at g2
            have hkey := g5.uniq hkr
            obtain ⟨al, asz, ab, ao⟩ := setObj_facts (o' := .map (ents.modify q.1 fun e => { e with key := vk, val := vy }) cl) e1
            obtain ⟨hx, hsr⟩ := hs.write hb hbF hm al asz (o' := .map (es.set q.1 (k, y))) ao
            refine ⟨_, run1 (MapKept.run_findKey (P := P) hd g3) _ () ?_, hx, hsr ⟨_, _, ab, by simpa using e2, fun j p hp => ?_⟩, .tup' rfl (fun j x hx => by simp at hx), fun _ h => .inl h⟩
            · simp only [g2, Option.map_some, Option.getD_some, hkey, Sem.run_bind, hkr.stays, Result.andThen_ok]
              exact MapKept.run_setObj_map _ e1
            · rw [List.getElem?_set] at hp
              split at hp
              · rename_i hj
                subst hj
                split at hp
                · cases hp
                  refine ⟨{ e with key := vk, val := vy }, ?_, hx.vr hk, hx.vr hy⟩
                  rw [Array.getElem?_modify, g2]; simp
                · cases hp
              · rename_i hj
                obtain ⟨q', h1, h2, h3⟩ := e3 j p hp
                exact ⟨q', by rw [Array.getElem?_modify, if_neg hj]; exact h1, hx.vr h2, hx.vr h3⟩
          · rename_i hq
            cases h
            have g3 := sim_akey hkr es ents.toList 0 _ (by simpa using e2) (fun j p hp => by simpa using e3 j p hp) hq
            obtain ⟨al, asz, ab, ao⟩ := setObj_facts (o' := .map (ents.push { key := vk, val := vy, born := cl }) (cl + 1)) e1
            obtain ⟨hx, hsr⟩ := hs.write hb hbF hm al asz (o' := .map (es ++ [(k, y)])) ao
            refine ⟨_, run1 (MapKept.run_findKey (P := P) hd g3) _ () (MapKept.run_setObj_map _ e1), hx, hsr ⟨_, _, ab, by simp [e2], fun j p hp => ?_⟩, .tup' rfl (fun j x hx => by simp at hx), fun _ h => .inl h⟩
            rcases Nat.lt_or_ge j es.length with hj | hj
            · rw [List.getElem?_append_left hj] at hp
              obtain ⟨q', h1, h2, h3⟩ := e3 j p hp
              exact ⟨q', by rw [Array.getElem?_push, if_neg (by omega)]; exact h1, hx.vr h2, hx.vr h3⟩
            · rw [List.getElem?_append_right hj] at hp
              have : j = es.length := by
                rcases Nat.lt_or_ge (j - es.length) 1 with h1 | h1
                · omega
                · rw [List.getElem?_eq_none (by simpa using h1)] at hp; cases hp
              subst this
              simp at hp; subst hp
              exact ⟨_, by rw [Array.getElem?_push, if_pos e2.symm], hx.vr hk, hx.vr hy⟩
          · cases h
    · cases h
  · cases h

theorem sim_makeMap (hs : SR c m H F w) {E : Env} {id : Nat} (hid : m id = none) {t : TypeId} {a : Option AV} {v : AV} {e : Eff} {rd fz : List Nat} (h : opMakeMap E id t a = .ok v e rd fz) {va : Option Value} (ha : a = none → va = none) :
    ∃ cv m' w', (Instr.makeMap t va).run P w = .ok cv w' ∧ Done c m H F w id v e fz cv m' w' := by
  unfold opMakeMap at h
  split at h
  · rw [ha rfl]
    split at h
    · cases h
      obtain ⟨f1, f2, f3, f4⟩ := alloc_facts w (.map #[] 0)
      obtain ⟨hx, hsr⟩ := hs.new hid f4 f1 f2 (L := ⟨w.heap.size, 0, 0, 0, 0, fun _ => none⟩) rfl (o := .map [])
      exact ⟨_, _, _, rfl, hx, hsr ⟨#[], 0, f3, rfl, fun j p hp => by simp at hp⟩, .mp (upd_same _ _ _) rfl, dom_upd⟩
    · cases h
  · cases h

end
end Go.Proofs.Ytmkmjjodiicmlaa.VS

/- One operation that calls no function: what it leaves, on both sides. Conditions: none. -/
namespace Go.Proofs.Ytmkmjjodiicmlaa.VS
variable [Syms]

section
variable {P : Program} {T : Tabs} {c : Ctx} {m : Map} {H : Heap} {F : List Nat} {w : World}

/-- An operation's answer: a value, or none. -/
def OpEnds (P : Program) (a : Act) (o : Oper) (w : World) (R : Value → World → Prop) : Prop :=
  (∃ cv w', (execOp a.eval o).run P w = .ok (.value cv) w' ∧ R cv w') ∨ ∃ w', (execOp a.eval o).run P w = .ok .skip w' ∧ R undef w'

omit [Syms] in
theorem run_value {s : Sem Value} {v : Value} {w' : World} (h : s.run P w = .ok v w') : (do pure (Next.value (← s)) : Sem Next).run P w = .ok (.value v) w' := by
  simp [h]

omit [Syms] in
theorem run_unit {s : Sem Unit} {w' : World} (h : s.run P w = .ok () w') : (do s; pure Next.skip : Sem Next).run P w = .ok .skip w' := by
  simp [h]

theorem sim_len (hT : TyOK P T) (hs : SR c m H F w) {t : TypeId} {x v : AV} (h : alen T t H x = some v) {vx : Value} (hx : VR (okB c.X m H F) w.heap m x vx) {ts : Array TypeId} (ht : ts[0]? = some t) (ty : TypeId) :
    ∃ cv, (Builtin.len_ ts ty #[vx]).run P w = .ok cv w ∧ VR (okB c.X m H F) w.heap m v cv := by
  unfold alen at h
  split at h
  · rename_i s hk
    cases h
    obtain ⟨bs, rfl, hbs⟩ := hx.str_inv
    have : bs.size = s.length := by rw [← hbs]; exact Array.length_toList.symm
    exact ⟨_, by simp [Builtin.len_, ht, run_underlying (kind_str hT hk), goInt, this], .int _ _⟩
  · rename_i hk
    cases h; cases hx
    exact ⟨_, by simp [Builtin.len_, ht, run_underlying (kind_slice hT hk), goInt], .int _ _⟩
  · rename_i hk
    cases h; cases hx
    exact ⟨_, by simp [Builtin.len_, ht, run_underlying (kind_slice hT hk), goInt], .int _ _⟩
  · rename_i hk
    cases h; cases hx
    exact ⟨_, by simp [Builtin.len_, ht, run_underlying (kind_slice hT hk), goInt], .int _ _⟩
  · rename_i xs hk
    cases h
    obtain ⟨a, cp, rfl, _⟩ := hx.sl_any
    exact ⟨_, by simp [Builtin.len_, ht, run_underlying (kind_slice hT hk), goInt], .int _ _⟩
  · rename_i s b lo len hk
    cases h
    obtain ⟨a, cp, rfl, _⟩ := hx.osl_any
    exact ⟨_, by simp [Builtin.len_, ht, run_underlying (kind_slice hT hk), goInt], .int _ _⟩
  · rename_i gt b n hk
    cases h
    obtain ⟨a, cp, rfl⟩ := hx.gs_any
    exact ⟨_, by simp [Builtin.len_, ht, run_underlying (kind_slice hT hk), goInt], .int _ _⟩
  · rename_i gt xs hk
    cases h
    obtain ⟨a, cp, rfl, _⟩ := (VR.tl_iff.1 hx).sl_any
    exact ⟨_, by simp [Builtin.len_, ht, run_underlying (kind_slice hT hk), goInt, encs_length], .int _ _⟩
  · rename_i k e hk
    split at h
    · rename_i es hes
      cases h
      rcases mapOf_some hs hes hx with ⟨rfl, rfl⟩ | ⟨r, ents, cl, rfl, h1, h2, h3⟩
      · exact ⟨_, by simp [Builtin.len_, ht, run_underlying (kind_map hT hk), goInt], .int _ _⟩
      · exact ⟨_, by simp [Builtin.len_, ht, run_underlying (kind_map hT hk), goInt, MapKept.run_getObj_map h1, h2], .int _ _⟩
    · cases h
  · rename_i n e _ hk
    cases h
    exact ⟨_, by simp [Builtin.len_, ht, run_underlying (kind_array hT hk), goInt], .int _ _⟩
  · cases h

theorem sim_cap (hT : TyOK P T) {t : TypeId} {x v : AV} (h : acap T t x = some v) {ok : Nat → Prop} {vx : Value} (hx : VR ok w.heap m x vx) {ts : Array TypeId} (ht : ts[0]? = some t) (ty : TypeId) :
    ∃ cv, (Builtin.cap_ ts ty #[vx]).run P w = .ok cv w ∧ VR ok w.heap m v cv := by
  unfold acap at h
  split at h
  · rename_i hk
    cases h; cases hx
    exact ⟨_, by simp [Builtin.cap_, ht, run_underlying (kind_slice hT hk), goInt], .int _ _⟩
  · rename_i hk
    cases h; cases hx
    exact ⟨_, by simp [Builtin.cap_, ht, run_underlying (kind_slice hT hk), goInt], .int _ _⟩
  · cases h

theorem sim_max {ok : Nat → Prop} {k : IntKind} : ∀ (xs : List AV) (vs : List Value) (n r : Int), amax n xs = some r → vs.length = xs.length → (∀ (j : Nat) (x : AV) (v : Value), xs[j]? = some x → vs[j]? = some v → VR ok w.heap m x v) →
    (vs.foldlM Builtin.max2 (.int k n)).run P w = .ok (.int k r) w
  | [], vs, n, r, h, hl, _ => by
    have : vs = [] := List.length_eq_zero_iff.1 (by simpa using hl)
    subst this
    simp [amax] at h; subst h; rfl
  | x :: xs, [], _, _, _, hl, _ => by simp at hl
  | x :: xs, v :: vs, n, r, h, hl, hv => by
    have h0 := hv 0 x v rfl rfl
    cases x <;> simp only [amax] at h <;> try (cases h; done)
    rename_i k' b
    rw [h0.int_inv]
    simp only [List.foldlM_cons, Sem.run_bind, Builtin.max2, Sem.run_pure, Result.andThen_ok]
    exact sim_max xs vs _ r h (by simpa using hl) (fun j x v hx hv' => hv (j + 1) x v hx hv')

theorem sim_min {ok : Nat → Prop} {k : IntKind} : ∀ (xs : List AV) (vs : List Value) (n r : Int), amin n xs = some r → vs.length = xs.length → (∀ (j : Nat) (x : AV) (v : Value), xs[j]? = some x → vs[j]? = some v → VR ok w.heap m x v) →
    (vs.foldlM Builtin.min2 (.int k n)).run P w = .ok (.int k r) w
  | [], vs, n, r, h, hl, _ => by
    have : vs = [] := List.length_eq_zero_iff.1 (by simpa using hl)
    subst this
    simp [amin] at h; subst h; rfl
  | x :: xs, [], _, _, _, hl, _ => by simp at hl
  | x :: xs, v :: vs, n, r, h, hl, hv => by
    have h0 := hv 0 x v rfl rfl
    cases x <;> simp only [amin] at h <;> try (cases h; done)
    rename_i k' b
    rw [h0.int_inv]
    simp only [List.foldlM_cons, Sem.run_bind, Builtin.min2, Sem.run_pure, Result.andThen_ok]
    exact sim_min xs vs _ r h (by simpa using hl) (fun j x v hx hv' => hv (j + 1) x v hx hv')

theorem sim_unary {ok : Nat → Prop} {op : UnOp} {x v : AV} (h : aun op x = some v) {vx : Value} (hx : VR ok w.heap m x vx) : ∃ cv, (Op.unary op vx).run P w = .ok cv w ∧ VR ok w.heap m v cv := by
  unfold aun at h
  split at h
  · cases h; rw [hx.int_inv]; exact ⟨_, rfl, .int _ _⟩
  · cases h; cases hx; exact ⟨_, rfl, .bool _⟩
  · simp only [aint, intv] at h
    cases h; rw [hx.int_inv]; exact ⟨_, rfl, .int _ _⟩
  · cases h

def simpleV : AV → Bool
  | .bool _ | .int _ _ | .str _ | .nilp | .ptr _ _ | .nils | .sl _ | .osl _ _ _ _ | .nev | .rng _ _ _ _ | .ustr _ _ => true
  | _ => false

def isIntV : AV → Bool
  | .int _ _ | .rng _ _ _ _ | .lin _ _ _ _ _ => true
  | _ => false

def isStrV : AV → Bool
  | .str _ | .ustr _ _ => true
  | _ => false

omit [Syms] in
theorem eqOne_simple {k : TK} {x y : AV} {b : Bool} (h : eqOne k x y = some b) : simpleV x = true ∧ simpleV y = true := by
  unfold eqOne at h
  split at h
  · exact ⟨rfl, rfl⟩
  · exact ⟨rfl, rfl⟩
  · exact ⟨rfl, rfl⟩
  · exact ⟨rfl, rfl⟩
  · exact ⟨rfl, rfl⟩
  · exact ⟨rfl, rfl⟩
  · exact ⟨rfl, rfl⟩
  · exact ⟨rfl, rfl⟩
  · exact ⟨rfl, rfl⟩
  · unfold eqPtr at h
    split at h
    · exact ⟨rfl, rfl⟩
    · exact ⟨rfl, rfl⟩
    · exact ⟨rfl, rfl⟩
    · cases h
  · unfold eqSl at h
    split at h
    · exact ⟨rfl, rfl⟩
    · exact ⟨rfl, rfl⟩
    · exact ⟨rfl, rfl⟩
    · exact ⟨rfl, rfl⟩
    · exact ⟨rfl, rfl⟩
    · exact ⟨rfl, rfl⟩
    · exact ⟨rfl, rfl⟩
    · cases h
  · cases h

omit [Syms] in
theorem guard_other {op : BinOp} (h1 : op ≠ .eql) (h2 : op ≠ .neq) (t : TypeId) (x y : Operand) (a b : Value) : (eqGuard op t x y a b).run P w = .ok () w := by
  cases op <;> first | exact absurd rfl h1 | exact absurd rfl h2 | rfl

/-- '==' and '!=', with what is asked ahead of them. -/
theorem sim_eqOp (hT : TyOK P T) {ok : Nat → Prop} {op : BinOp} {t : TypeId} {x y v : AV} (h : aeqOp T op t x y = some v) {vx vy : Value} (hx : VR ok w.heap m x vx) (hy : VR ok w.heap m y vy)
    (hn : isIntV x = true → isIntV y = true → False) (hs : isStrV x = true → isStrV y = true → False) (ox oy : Operand) :
    ∃ cv, (do eqGuard op t ox oy vx vy; binOp op t vx vy : Sem Value).run P w = .ok cv w ∧ VR ok w.heap m v cv := by
  have core : ∀ b, aeq T DEQ t x y = some b → (eqGuard op t ox oy vx vy).run P w = .ok () w ∧ (binOp .eql t vx vy).run P w = .ok (.bool b) w ∧ (binOp .neq t vx vy).run P w = .ok (.bool !b) w := by
    intro b hb
    have he : (Op.equal t vx vy).run P w = .ok b w := sim_aeq hT DEQ hb hx hy _ (by decide)
    have nd : x ≠ .dead ∧ y ≠ .dead ∧ (vx = .nilIface → vy = .nilIface → False) ∧ (∀ xs ys, vx = .agg xs → vy = .agg ys → P.eqGuardType P.depth t = false) := by
      have hb' := hb
      rw [show DEQ = 9 + 1 from rfl, aeq] at hb'
      split at hb'
      · rename_i ti hti
        obtain ⟨j, dsc, h1, h2, _, _, _, _, h3, h4⟩ := hT t ti hti
        split at hb'
        · rename_i fields xs ys hk
          cases hc : ti.cmp with
          | false => simp [hc] at hb'
          | true =>
            obtain ⟨va, rfl, _⟩ := hx.agg_inv
            exact ⟨nofun, nofun, nofun, fun _ _ _ _ => (h4 hc).1⟩
        · obtain ⟨q1, q2⟩ := eqOne_simple hb'
          refine ⟨?_, ?_, ?_, ?_⟩
          · rintro rfl; simp [simpleV] at q1
          · rintro rfl; simp [simpleV] at q2
          · rintro rfl rfl
            cases hx <;> simp [simpleV] at q1
          · rintro xs ys rfl rfl
            cases hx <;> simp [simpleV] at q1
      · cases hb'
    obtain ⟨n1, n2, n3, n4⟩ := nd
    have hb2 := run_eqBoth (P := P) he (fun ⟨k, n, l, n', e1, e2⟩ => by
        subst e1; subst e2
        refine hn ?_ ?_
        · cases hx <;> first | exact absurd rfl n1 | rfl | (rename_i q; generalize encs _ _ = l at q; cases q)
        · cases hy <;> first | exact absurd rfl n2 | rfl | (rename_i q; generalize encs _ _ = l at q; cases q))
      (fun ⟨a, b, e1, e2⟩ => by
        subst e1; subst e2
        refine hs ?_ ?_
        · cases hx <;> first | exact absurd rfl n1 | rfl | (rename_i q; generalize encs _ _ = l at q; cases q)
        · cases hy <;> first | exact absurd rfl n2 | rfl | (rename_i q; generalize encs _ _ = l at q; cases q)) (hx.noFloat n1).1 (hx.noFloat n1).2
    refine ⟨?_, hb2⟩
    unfold eqGuard
    cases vx <;> cases vy <;> first
      | exact (n3 rfl rfl).elim
      | (cases op <;> simp [n4 _ _ rfl rfl]; done)
      | (cases op <;> simp; done)
  unfold aeqOp at h
  split at h
  · unfold yesO at h
    split at h
    · rename_i b hb
      cases h
      obtain ⟨g1, g2, _⟩ := core b hb
      exact ⟨_, by simp only [Sem.run_bind, g1, Result.andThen_ok]; exact g2, .bool _⟩
    · cases h
  · unfold notO at h
    split at h
    · rename_i b hb
      cases h
      obtain ⟨g1, _, g2⟩ := core b hb
      exact ⟨_, by simp only [Sem.run_bind, g1, Result.andThen_ok]; exact g2, .bool _⟩
    · cases h
  · cases h

omit [Syms] in
theorem arng_aint {op : BinOp} {k : IntKind} {lo hi a b : Int} {v : AV} (h : arng op lo hi b = some v) (h1 : lo ≤ a) (h2 : a ≤ hi) : aint op k a b = some v ∧ op ≠ .shl ∧ op ≠ .shr := by
  cases op <;> simp only [arng] at h <;> try (cases h; done)
  all_goals
    refine ⟨?_, nofun, nofun⟩
    simp only [aint]
    split at h
    · cases h
      congr 2
      simp
      try omega
    · split at h
      · cases h
        congr 2
        simp
        try omega
      · cases h

omit [Syms] in
theorem aint_flip {op : BinOp} {k : IntKind} {a b : Int} {v : AV} (h : aint (flipOp op) k a b = some v) (hc : ∃ t, v = .bool t) : aint op k b a = some v := by
  obtain ⟨t, rfl⟩ := hc
  cases op <;> simp only [flipOp, aint, intv] at h ⊢ <;> first
    | (cases h; done)
    | exact h
    | (rw [← h, show (a == b) = (b == a) from BEq.comm])
    | (rw [← h, show (a != b) = (b != a) by unfold bne; rw [show (a == b) = (b == a) from BEq.comm]])

omit [Syms] in
theorem arng_bool {op : BinOp} {lo hi b : Int} {v : AV} (h : arng op lo hi b = some v) : ∃ t, v = .bool t := by
  cases op <;> simp only [arng] at h <;> try (cases h; done)
  all_goals
    split at h
    · cases h; exact ⟨_, rfl⟩
    · split at h
      · cases h; exact ⟨_, rfl⟩
      · cases h

omit [Syms] in
theorem asame_aint {op : BinOp} {k : IntKind} {a : Int} {v : AV} (h : asame op = some v) : aint op k a a = some v ∧ op ≠ .shl ∧ op ≠ .shr := by
  cases op <;> simp only [asame] at h <;> first | (cases h; done) | skip
  all_goals
    cases h
    refine ⟨?_, nofun, nofun⟩
    simp [aint]

omit [Syms] in
theorem aeqs_astr {op : BinOp} {r : Option Bool} {x y : List UInt8} {v : AV} (h : aeqs op r = some v) (hr : ∀ t, r = some t → (x == y) = t) : astr op x y = some v := by
  unfold aeqs at h
  split at h
  · unfold yesO at h
    split at h
    · cases h; rename_i b; simp only [astr]; rw [hr b rfl]
    · cases h
  · unfold notO at h
    split at h
    · cases h; rename_i b; simp only [astr]; rw [hr b rfl]
    · cases h
  · cases h

theorem sim_strOp {ok : Nat → Prop} {op : BinOp} {t : TypeId} {a b : List UInt8} {v : AV} (h : astr op a b = some v) {s1 s2 : ByteArray} (h1 : s1.data.toList = a) (h2 : s2.data.toList = b) (ox oy : Operand) :
    ∃ cv, (do eqGuard op t ox oy (.string s1) (.string s2); binOp op t (.string s1) (.string s2) : Sem Value).run P w = .ok cv w ∧ VR ok w.heap m v cv := by
  have g : (eqGuard op t ox oy (.string s1) (.string s2)).run P w = .ok () w := by unfold eqGuard; cases op <;> simp
  obtain ⟨cv, g1, g2⟩ := sim_astr (P := P) (w := w) (ok := ok) (m := m) h h1 h2
  refine ⟨cv, ?_, g2⟩
  simp only [Sem.run_bind, g, Result.andThen_ok]
  cases op <;> exact g1

theorem sim_intOp {ok : Nat → Prop} {op : BinOp} {t : TypeId} {k : IntKind} {a b : Int} {v : AV} (h : aint op k a b = some v) (n1 : op ≠ .shl) (n2 : op ≠ .shr) (ox oy : Operand) :
    ∃ cv, (do eqGuard op t ox oy (.int k a) (.int k b); binOp op t (.int k a) (.int k b) : Sem Value).run P w = .ok cv w ∧ VR ok w.heap m v cv := by
  have g : (eqGuard op t ox oy (.int k a) (.int k b)).run P w = .ok () w := by unfold eqGuard; cases op <;> simp
  obtain ⟨cv, g1, g2⟩ := sim_aint (P := P) (w := w) (ok := ok) (m := m) h n1 n2 t
  exact ⟨cv, by simp only [Sem.run_bind, g, Result.andThen_ok]; exact g1, g2⟩

omit [Syms] in
theorem flip_ne {op : BinOp} {lo hi b : Int} {v : AV} (h : arng (flipOp op) lo hi b = some v) : op ≠ .shl ∧ op ≠ .shr := by
  constructor <;> rintro rfl <;> simp [flipOp, arng] at h

omit [Syms] in
theorem wrap_in {n : Int} (h1 : -9223372036854775808 ≤ n) (h2 : n ≤ 9223372036854775807) : IntKind.i64.wrap n = n := by
  have key : IntKind.i64.wrap n = if (true && decide (n % 18446744073709551616 ≥ 9223372036854775808)) = true then n % 18446744073709551616 - 18446744073709551616 else n % 18446744073709551616 := rfl
  rw [key]
  by_cases h : n % 18446744073709551616 ≥ 9223372036854775808
  · rw [if_pos (by simpa using h)]; omega
  · rw [if_neg (by simpa using h)]; omega

omit [Syms] in
theorem lin_range {a c lo hi s : Int} (h1 : lo ≤ s) (h2 : s ≤ hi) : linLo a c lo hi ≤ a * s + c ∧ a * s + c ≤ linHi a c lo hi := by
  unfold linLo linHi
  by_cases ha : 0 ≤ a
  · rw [if_pos ha, if_pos ha]
    have := Int.mul_le_mul_of_nonneg_left h1 ha
    have := Int.mul_le_mul_of_nonneg_left h2 ha
    omega
  · rw [if_neg ha, if_neg ha]
    have ha' : a ≤ 0 := by omega
    have := Int.mul_le_mul_of_nonpos_left ha' h1
    have := Int.mul_le_mul_of_nonpos_left ha' h2
    omega

/-- What a number of that kind stands for. -/
def Stands (v v' : AV) : Prop := ∀ (ok : Nat → Prop) (h : Array Obj) (m : Map) (cv : Value), VR ok h m v' cv → VR ok h m v cv

omit [Syms] in
theorem intv_in {n : Int} (h1 : -9223372036854775808 ≤ n) (h2 : n ≤ 9223372036854775807) : intv .i64 n = some (.int .i64 n) := by
  unfold intv; rw [wrap_in h1 h2]

theorem mkLin_ok {i : Nat} {a c lo hi : Int} {v : AV} (h : mkLin i a c lo hi = some v) (h1 : lo ≤ Syms.int i) (h2 : Syms.int i ≤ hi) {n : Int} (hn : n = a * Syms.int i + c) : intv .i64 n = some (.int .i64 n) ∧ Stands v (.int .i64 n) := by
  unfold mkLin at h
  obtain ⟨r1, r2⟩ := lin_range (a := a) (c := c) h1 h2
  split at h
  · split at h
    · refine ⟨intv_in (by omega) (by omega), fun ok hp m cv hv => ?_⟩
      rw [hv.int_inv]
      split at h
      · rename_i ha
        cases h
        subst ha
        rw [hn, Int.zero_mul, Int.zero_add]
        exact .int _ _
      · cases h
        exact .lin _ _ _ _ _ _ hn h1 h2
    · cases h
  · cases h

theorem stands_self (v : AV) : Stands v v := fun _ _ _ _ h => h

omit [Syms] in
theorem linDiv_ok {a c lo b s : Int} (h : linDiv a c lo b = true) (h1 : lo ≤ s) : 0 < b ∧ (a * s + c).tdiv b = a / b * s + c / b ∧ (a * s + c).tmod b = c % b := by
  unfold linDiv at h
  simp only [Bool.and_eq_true, decide_eq_true_eq] at h
  obtain ⟨hb, hlo, hc, ha, hm⟩ := h
  have hs : 0 ≤ s := by omega
  obtain ⟨q, rfl⟩ : ∃ q, a = b * q := ⟨a / b, by have := Int.emod_add_mul_ediv a b; rw [hm] at this; omega⟩
  have hpos : 0 ≤ b * q * s + c := by have := Int.mul_nonneg ha hs; omega
  refine ⟨hb, ?_, ?_⟩
  · rw [Int.tdiv_eq_ediv_of_nonneg hpos, Int.mul_ediv_cancel_left _ (by omega), Int.mul_assoc, Int.add_comm, Int.add_mul_ediv_left _ _ (by omega), Int.add_comm]
  · rw [Int.tmod_eq_emod_of_nonneg hpos, Int.mul_assoc, Int.add_comm, Int.add_mul_emod_self_left]

omit [Syms] in
theorem arng_cmp {op : BinOp} {lo hi b : Int} {v : AV} (h : arng op lo hi b = some v) : op ≠ .add ∧ op ≠ .sub ∧ op ≠ .quo ∧ op ≠ .rem := by
  refine ⟨?_, ?_, ?_, ?_⟩ <;> rintro rfl <;> simp [arng] at h

theorem alinI_ok {op : BinOp} {i : Nat} {a c lo hi b : Int} {v : AV} (h : alinI op i a c lo hi b = some v) (h1 : lo ≤ Syms.int i) (h2 : Syms.int i ≤ hi) {n : Int} (hn : n = a * Syms.int i + c) :
    ∃ v', aint op .i64 n b = some v' ∧ op ≠ .shl ∧ op ≠ .shr ∧ Stands v v' := by
  obtain ⟨r1, r2⟩ := lin_range (a := a) (c := c) h1 h2
  unfold alinI at h
  split at h
  · obtain ⟨g1, g2⟩ := mkLin_ok h h1 h2 (n := n + b) (by omega)
    exact ⟨_, g1, nofun, nofun, g2⟩
  · obtain ⟨g1, g2⟩ := mkLin_ok h h1 h2 (n := n - b) (by omega)
    exact ⟨_, g1, nofun, nofun, g2⟩
  · cases hd : linDiv a c lo b with
    | false => rw [hd, cond_false] at h; cases h
    | true =>
      rw [hd, cond_true] at h
      obtain ⟨k1, k2, k3⟩ := linDiv_ok hd h1
      obtain ⟨g1, g2⟩ := mkLin_ok h h1 h2 (n := n.tdiv b) (by rw [hn, k2])
      exact ⟨_, by simp only [aint]; rw [if_neg (by omega)]; exact g1, nofun, nofun, g2⟩
  · cases hd : linDiv a c lo b with
    | false => rw [hd, cond_false] at h; cases h
    | true =>
      rw [hd, cond_true] at h
      cases h
      obtain ⟨k1, k2, k3⟩ := linDiv_ok hd h1
      exact ⟨_, by simp only [aint]; rw [if_neg (by omega), hn, k3], nofun, nofun, stands_self _⟩
  · obtain ⟨e, n1, n2⟩ := arng_aint (k := .i64) (a := n) h (by omega) (by omega)
    exact ⟨v, e, n1, n2, stands_self _⟩

theorem aIlin_ok {op : BinOp} {i : Nat} {a c lo hi b : Int} {v : AV} (h : aIlin op b i a c lo hi = some v) (h1 : lo ≤ Syms.int i) (h2 : Syms.int i ≤ hi) {n : Int} (hn : n = a * Syms.int i + c) :
    ∃ v', aint op .i64 b n = some v' ∧ op ≠ .shl ∧ op ≠ .shr ∧ Stands v v' := by
  obtain ⟨r1, r2⟩ := lin_range (a := a) (c := c) h1 h2
  unfold aIlin at h
  split at h
  · obtain ⟨g1, g2⟩ := mkLin_ok h h1 h2 (n := b + n) (by omega)
    exact ⟨_, g1, nofun, nofun, g2⟩
  · obtain ⟨g1, g2⟩ := mkLin_ok h h1 h2 (n := b - n) (by rw [Int.neg_mul]; omega)
    exact ⟨_, g1, nofun, nofun, g2⟩
  · obtain ⟨e, _, _⟩ := arng_aint (k := .i64) (a := n) h (by omega) (by omega)
    obtain ⟨n1, n2⟩ := flip_ne h
    obtain ⟨t, rfl⟩ := arng_bool h
    exact ⟨_, aint_flip e ⟨_, rfl⟩, n1, n2, stands_self _⟩

theorem alinL_ok {op : BinOp} {i : Nat} {a c a' c' lo hi : Int} {v : AV} (h : alinL op i a c a' c' lo hi = some v) (h1 : lo ≤ Syms.int i) (h2 : Syms.int i ≤ hi) {n n' : Int} (hn : n = a * Syms.int i + c) (hn' : n' = a' * Syms.int i + c') :
    ∃ v', aint op .i64 n n' = some v' ∧ op ≠ .shl ∧ op ≠ .shr ∧ Stands v v' := by
  unfold alinL at h
  split at h
  · obtain ⟨g1, g2⟩ := mkLin_ok h h1 h2 (n := n + n') (by rw [Int.add_mul]; omega)
    exact ⟨_, g1, nofun, nofun, g2⟩
  · obtain ⟨g1, g2⟩ := mkLin_ok h h1 h2 (n := n - n') (by rw [Int.sub_mul]; omega)
    exact ⟨_, g1, nofun, nofun, g2⟩
  · obtain ⟨r1, r2⟩ := lin_range (a := a - a') (c := c - c') h1 h2
    have hd : n - n' = (a - a') * Syms.int i + (c - c') := by rw [Int.sub_mul]; omega
    obtain ⟨e, n1, n2⟩ := arng_aint (k := .i64) (a := n - n') h (by omega) (by omega)
    obtain ⟨t, rfl⟩ := arng_bool h
    refine ⟨_, ?_, n1, n2, stands_self _⟩
    cases op <;> simp only [aint] at e ⊢ <;> first
      | (exact (n1 rfl).elim)
      | (exact (n2 rfl).elim)
      | (simp [arng] at h; done)
      | skip
    all_goals
      rw [← e]
      congr 2
      rw [Bool.eq_iff_iff]
      simp
      try omega

theorem sim_bin (hT : TyOK P T) {ok : Nat → Prop} {op : BinOp} {t : TypeId} {x y v : AV} (h : abin T op t x y = some v) {vx vy : Value} (hx : VR ok w.heap m x vx) (hy : VR ok w.heap m y vy) (ox oy : Operand) :
    ∃ cv, (do eqGuard op t ox oy vx vy; binOp op t vx vy : Sem Value).run P w = .ok cv w ∧ VR ok w.heap m v cv := by
  unfold abin at h
  split at h
  · rename_i i a c lo hi k b
    rw [hy.int_inv]
    cases hx with
    | lin _ _ _ _ _ n e0 e1 e2 =>
    split at h
    · rename_i hk
      subst hk
      obtain ⟨v', q1, q2, q3, q4⟩ := alinI_ok h e1 e2 e0
      obtain ⟨cv, g1, g2⟩ := sim_intOp (P := P) (w := w) (ok := ok) (m := m) (t := t) q1 q2 q3 ox oy
      exact ⟨cv, g1, q4 _ _ _ _ g2⟩
    · cases h
  · rename_i k b i a c lo hi
    rw [hx.int_inv]
    cases hy with
    | lin _ _ _ _ _ n e0 e1 e2 =>
    split at h
    · rename_i hk
      subst hk
      obtain ⟨v', q1, q2, q3, q4⟩ := aIlin_ok h e1 e2 e0
      obtain ⟨cv, g1, g2⟩ := sim_intOp (P := P) (w := w) (ok := ok) (m := m) (t := t) q1 q2 q3 ox oy
      exact ⟨cv, g1, q4 _ _ _ _ g2⟩
    · cases h
  · rename_i i a c lo hi j a' c' lo' hi'
    cases hij : Nat.beq i j with
    | false => rw [hij, cond_false] at h; cases h
    | true =>
      rw [hij, cond_true] at h
      have hij := Nat.eq_of_beq_eq_true hij
      subst hij
      cases hx with
      | lin _ _ _ _ _ n e0 e1 e2 =>
      cases hy with
      | lin _ _ _ _ _ n' e0' _ _ =>
      obtain ⟨v', q1, q2, q3, q4⟩ := alinL_ok h e1 e2 e0 e0'
      obtain ⟨cv, g1, g2⟩ := sim_intOp (P := P) (w := w) (ok := ok) (m := m) (t := t) q1 q2 q3 ox oy
      exact ⟨cv, g1, q4 _ _ _ _ g2⟩
  · cases h
  · cases h
  · rename_i i k lo hi k' b
    rw [hy.int_inv]
    cases hx with
    | rng _ _ _ _ a h0 h1 h2 =>
    split at h
    · rename_i hk
      subst hk
      obtain ⟨e, n1, n2⟩ := arng_aint (k := k) h h1 h2
      exact sim_intOp e n1 n2 ox oy
    · cases h
  · rename_i k b i k' lo hi
    rw [hx.int_inv]
    cases hy with
    | rng _ _ _ _ a h0 h1 h2 =>
    split at h
    · rename_i hk
      subst hk
      obtain ⟨e, _, _⟩ := arng_aint (k := k) h h1 h2
      obtain ⟨n1, n2⟩ := flip_ne h
      obtain ⟨t', rfl⟩ := arng_bool h
      exact sim_intOp (aint_flip e ⟨_, rfl⟩) n1 n2 ox oy
    · cases h
  · rename_i i k lo hi j k' lo' hi'
    split at h
    · rename_i hk
      subst hk
      cases hx with
      | rng _ _ _ _ n e0 e1 e2 =>
      cases hy with
      | rng _ _ _ _ n' e0' e1' e2' =>
      cases hij : Nat.beq i j with
      | false => simp [hij] at h
      | true =>
        simp only [hij, cond_true] at h
        have hij := Nat.eq_of_beq_eq_true hij
        subst hij
        rw [e0, e0']
        obtain ⟨e, n1, n2⟩ := asame_aint (k := k) (a := Syms.int i) h
        exact sim_intOp e n1 n2 ox oy
    · cases h
  · rename_i i l b
    obtain ⟨s2, rfl, h2⟩ := hy.str_inv
    cases hx with
    | ustr _ _ s1 e1 e2 =>
    exact sim_strOp (aeqs_astr h fun t ht => (eqUs_ok ht e2).1) rfl h2 ox oy
  · rename_i b i l
    obtain ⟨s1, rfl, h1⟩ := hx.str_inv
    cases hy with
    | ustr _ _ s2 e1 e2 =>
    exact sim_strOp (aeqs_astr h fun t ht => (eqUs_ok ht e2).2) h1 rfl ox oy
  · rename_i i l j l'
    cases hx with
    | ustr _ _ s1 e1 e2 =>
    cases hy with
    | ustr _ _ s2 e1' e2' =>
    refine sim_strOp (aeqs_astr h fun t ht => ?_) e1 e1' ox oy
    cases hij : Nat.beq i j with
    | false => simp [hij] at ht
    | true =>
      simp only [hij, cond_true, Option.some.injEq] at ht
      subst ht
      have hij := Nat.eq_of_beq_eq_true hij
      subst hij
      simp
  · rename_i k a k' b
    rw [hx.int_inv, hy.int_inv]
    have g : (eqGuard op t ox oy (.int k a) (.int k' b)).run P w = .ok () w := by unfold eqGuard; cases op <;> simp
    split at h
    · obtain ⟨cv, h1, h2⟩ := sim_ashift (P := P) (w := w) (ok := ok) (m := m) (k' := k') h (.inl rfl) t
      exact ⟨cv, by simp only [Sem.run_bind, g, Result.andThen_ok]; exact h1, h2⟩
    · obtain ⟨cv, h1, h2⟩ := sim_ashift (P := P) (w := w) (ok := ok) (m := m) (k' := k') h (.inr rfl) t
      exact ⟨cv, by simp only [Sem.run_bind, g, Result.andThen_ok]; exact h1, h2⟩
    · rename_i n1 n2
      split at h
      · rename_i hk
        subst hk
        obtain ⟨cv, h1, h2⟩ := sim_aint (P := P) (w := w) (ok := ok) (m := m) h n1 n2 t
        exact ⟨cv, by simp only [Sem.run_bind, g, Result.andThen_ok]; exact h1, h2⟩
      · cases h
  · rename_i a b
    obtain ⟨s1, rfl, h1⟩ := hx.str_inv
    obtain ⟨s2, rfl, h2⟩ := hy.str_inv
    have g : (eqGuard op t ox oy (.string s1) (.string s2)).run P w = .ok () w := by unfold eqGuard; cases op <;> simp
    obtain ⟨cv, g1, g2⟩ := sim_astr (P := P) (w := w) (ok := ok) (m := m) h h1 h2
    refine ⟨cv, ?_, g2⟩
    simp only [Sem.run_bind, g, Result.andThen_ok]
    cases op <;> exact g1
  · rename_i l1 l2 l3 l4 l5 n1 n2 n3 n4 n5 n6 n7 n8
    refine sim_eqOp hT h hx hy ?_ ?_ ox oy
    · intro q1 q2
      cases x <;> simp only [isIntV] at q1 <;> first | (cases q1; done) | skip
      all_goals cases y <;> simp only [isIntV] at q2 <;> first | (cases q2; done) | skip
      all_goals first | exact n1 _ _ _ _ _ _ rfl rfl | exact n2 _ _ _ _ _ _ rfl rfl | exact n3 _ _ _ _ _ _ _ _ rfl rfl | exact n7 _ _ _ _ rfl rfl | exact l1 _ _ _ _ _ _ _ rfl rfl | exact l2 _ _ _ _ _ _ _ rfl rfl | exact l3 _ _ _ _ _ _ _ _ _ _ rfl rfl | exact l4 _ _ _ _ _ _ _ _ _ rfl rfl | exact l5 _ _ _ _ _ _ _ _ _ rfl rfl
    · intro q1 q2
      cases x <;> simp only [isStrV] at q1 <;> first | (cases q1; done) | skip
      all_goals cases y <;> simp only [isStrV] at q2 <;> first | (cases q2; done) | skip
      all_goals first | exact n4 _ _ _ rfl rfl | exact n5 _ _ _ rfl rfl | exact n6 _ _ _ _ rfl rfl | exact n8 _ _ rfl rfl

end
end Go.Proofs.Ytmkmjjodiicmlaa.VS

/- Values taken whole, and values under other numbers: what they tell. Conditions: none. -/
namespace Go.Proofs.Ytmkmjjodiicmlaa.VS
variable [Syms]

section
variable {ok ok' : Nat → Prop} {h : Array Obj} {m m' : Map} {H : Heap}

def resAll (nz : Bool) (H : Heap) (d : Nat) (l : List AV) : Option (List AV × List Nat) :=
  l.foldr (fun x acc => match acc, resolve nz H d x with
    | some ys, some y => some (y.1 :: ys.1, y.2 ++ ys.2)
    | _, _ => none) (some ([], []))

omit [Syms] in
theorem resAll_some {nz : Bool} {d : Nat} : ∀ {l : List AV} {r : List AV × List Nat}, resAll nz H d l = some r → r.1.length = l.length ∧
    ∀ (j : Nat) (x : AV), l[j]? = some x → ∃ y is, r.1[j]? = some y ∧ resolve nz H d x = some (y, is) ∧ ∀ b ∈ is, b ∈ r.2
  | [], r, hr => by simp [resAll] at hr; subst hr; exact ⟨rfl, fun j x hx => by simp at hx⟩
  | a :: l, r, hr => by
    unfold resAll at hr
    rw [List.foldr_cons] at hr
    change (match resAll nz H d l, resolve nz H d a with
      | some ys, some y => some (y.1 :: ys.1, y.2 ++ ys.2)
      | _, _ => none) = some r at hr
    split at hr
    · rename_i ys y hys hy
      cases hr
      obtain ⟨h1, h2⟩ := resAll_some hys
      refine ⟨by simp [h1], fun j x hx => ?_⟩
      cases j with
      | zero => simp at hx; subst hx; exact ⟨y.1, y.2, rfl, hy, fun b hb => List.mem_append.2 (.inl hb)⟩
      | succ j =>
        obtain ⟨y', is, g1, g2, g3⟩ := h2 j x (by simpa using hx)
        exact ⟨y', is, by simpa using g1, g2, fun b hb => List.mem_append.2 (.inr (g3 b hb))⟩
    · cases hr

/-- The arrays of a heap, told. -/
def ArrsR (ok : Nat → Prop) (h : Array Obj) (m : Map) (H : Heap) : Prop :=
  ∀ b o L, hget H b = some o → m b = some L → ObjR ok h m L o

theorem SR.arrs {c : Ctx} {F : List Nat} {w : World} (hs : SR c m H F w) : ArrsR (okB c.X m H F) w.heap m H := fun _ _ _ hb hL => hs.objm hb hL

def leafV : AV → Bool
  | .bool _ | .int _ _ | .str _ | .nilp | .nilf | .nili | .nilm | .sl _ | .rng _ _ _ _ | .ustr _ _ | .lin _ _ _ _ _ | .tl _ _ | .ub _ => true
  | _ => false

/-- One step of a value taken whole. -/
inductive Rsv (nz : Bool) (H : Heap) (d : Nat) : AV → AV → List Nat → Prop
  | agg {cs r} : resAll nz H d cs = some r → Rsv nz H d (.agg cs) (.agg r.1) r.2
  | tup {cs r} : resAll nz H d cs = some r → Rsv nz H d (.tup cs) (.tup r.1) r.2
  | fn {f cs r} : resAll nz H d cs = some r → Rsv nz H d (.fn f cs) (.fn f r.1) r.2
  | ifc {t v r} : resolve nz H d v = some r → Rsv nz H d (.ifc t v) (.ifc t r.1) r.2
  | osl {s b lo len s' xs r} : hget H b = some (.arr s' xs) → lo + len ≤ xs.length → resAll nz H d xs = some r → Rsv nz H d (.osl s b lo len) (.sl ((r.1.drop lo).take len)) (b :: r.2)
  | tosl {s b lo len t xs} : hget H b = some (.tarr t xs) → lo + len ≤ xs.length → Rsv nz H d (.osl s b lo len) (.tl t ((xs.drop lo).take len)) [b]
  | ptr {b cs r} : hget H b = some (.cells cs) → resAll nz H d cs = some r → Rsv nz H d (.ptr b 0) (.cptr (.agg r.1)) (b :: r.2)
  | cptr {x} : Rsv nz H d (.cptr x) (.cptr x) []
  | gs {g b n t xs} : hget H b = some (.tarr t xs) → n = xs.length → Rsv nz H d (.gs g b n) (.tl t xs) [b]
  | dosl {s b lo len xs} : hget H b = some (.deep xs 0) → lo + len ≤ xs.length → Rsv nz H d (.osl s b lo len) (.tl .blk ((xs.drop lo).take len)) [b]
  | dgs {g b n xs} : hget H b = some (.deep xs 0) → n = xs.length → Rsv nz H d (.gs g b n) (.tl .blk xs) [b]
  | nev : Rsv nz H d .nev (bif nz then .sl [] else .nev) []
  | nils : Rsv nz H d .nils (bif nz then .sl [] else .nils) []
  | emp : Rsv nz H d .emp (bif nz then .sl [] else .emp) []
  | leaf {v} : leafV v = true → Rsv nz H d v v []

omit [Syms] in
theorem resolve_rsv {nz : Bool} {d : Nat} {a y : AV} {is : List Nat} (hr : resolve nz H (d + 1) a = some (y, is)) : Rsv nz H d a y is := by
  cases a with
  | agg cs =>
    change (match resAll nz H d cs with
      | some r => some (.agg r.1, r.2)
      | none => none) = some (y, is) at hr
    split at hr
    · rename_i r hr'; cases hr; exact .agg hr'
    · cases hr
  | tup cs =>
    change (match resAll nz H d cs with
      | some r => some (.tup r.1, r.2)
      | none => none) = some (y, is) at hr
    split at hr
    · rename_i r hr'; cases hr; exact .tup hr'
    · cases hr
  | fn f cs =>
    change (match resAll nz H d cs with
      | some r => some (.fn f r.1, r.2)
      | none => none) = some (y, is) at hr
    split at hr
    · rename_i r hr'; cases hr; exact .fn hr'
    · cases hr
  | ifc t v =>
    change (match resolve nz H d v with
      | some r => some (.ifc t r.1, r.2)
      | none => none) = some (y, is) at hr
    split at hr
    · rename_i r hr'; cases hr; exact .ifc hr'
    · cases hr
  | osl s b lo len =>
    change (match hget H b with
      | some (.arr _ xs) => bif (lo + len).ble xs.length then
          match resAll nz H d xs with
          | some r => some (.sl ((r.1.drop lo).take len), b :: r.2)
          | none => none
        else none
      | some (.tarr t xs) => bif (lo + len).ble xs.length then some (.tl t ((xs.drop lo).take len), [b]) else none
      | some (.deep xs q) => bif (lo + len).ble xs.length && q.beq 0 then some (.tl .blk ((xs.drop lo).take len), [b]) else none
      | _ => none) = some (y, is) at hr
    split at hr
    · rename_i s' xs hb
      cases hc : (lo + len).ble xs.length with
      | false => simp [hc] at hr
      | true =>
        simp only [hc, cond_true] at hr
        split at hr
        · rename_i r hr'; cases hr; exact .osl hb (ble_le hc) hr'
        · cases hr
    · rename_i t xs hb
      cases hc : (lo + len).ble xs.length with
      | false => simp [hc] at hr
      | true => simp only [hc, cond_true] at hr; cases hr; exact .tosl hb (ble_le hc)
    · rename_i xs q hb
      cases hc : (lo + len).ble xs.length && q.beq 0 with
      | false => simp [hc] at hr
      | true =>
        simp only [hc, cond_true] at hr; cases hr
        rw [Bool.and_eq_true] at hc
        obtain rfl := Nat.eq_of_beq_eq_true hc.2
        exact .dosl hb (ble_le hc.1)
    · cases hr
  | gs g b n =>
    change (match hget H b with
      | some (.tarr t xs) => bif n.beq xs.length then some (.tl t xs, [b]) else none
      | some (.deep xs q) => bif n.beq xs.length && q.beq 0 then some (.tl .blk xs, [b]) else none
      | _ => none) = some (y, is) at hr
    split at hr
    · rename_i t xs hb
      cases hc : n.beq xs.length with
      | false => simp [hc] at hr
      | true => simp only [hc, cond_true] at hr; cases hr; exact .gs hb (Nat.eq_of_beq_eq_true hc)
    · rename_i xs q hb
      cases hc : n.beq xs.length && q.beq 0 with
      | false => simp [hc] at hr
      | true =>
        simp only [hc, cond_true] at hr; cases hr
        rw [Bool.and_eq_true] at hc
        obtain rfl := Nat.eq_of_beq_eq_true hc.2
        exact .dgs hb (Nat.eq_of_beq_eq_true hc.1)
    · cases hr
  | sub _ _ _ => cases hr
  | psub _ _ _ => cases hr
  | nils => cases hr; exact .nils
  | nev => cases hr; exact .nev
  | emp => cases hr; exact .emp
  | bool _ => cases hr; exact .leaf rfl
  | int _ _ => cases hr; exact .leaf rfl
  | rng _ _ _ _ => cases hr; exact .leaf rfl
  | ustr _ _ => cases hr; exact .leaf rfl
  | lin _ _ _ _ _ => cases hr; exact .leaf rfl
  | str _ => cases hr; exact .leaf rfl
  | nilp => cases hr; exact .leaf rfl
  | nilf => cases hr; exact .leaf rfl
  | nili => cases hr; exact .leaf rfl
  | nilm => cases hr; exact .leaf rfl
  | sl _ => cases hr; exact .leaf rfl
  | tl _ _ => cases hr; exact .leaf rfl
  | ub _ => cases hr; exact .leaf rfl
  | dead => cases hr
  | ptr b o =>
    change (match hget H b with
      | some (.cells cs) => bif o.beq 0 then
          match resAll nz H d cs with
          | some r => some (.cptr (.agg r.1), b :: r.2)
          | none => none
        else none
      | _ => none) = some (y, is) at hr
    split at hr
    · rename_i cs hb
      cases hc : o.beq 0 with
      | false => simp [hc] at hr
      | true =>
        have := Nat.eq_of_beq_eq_true hc
        subst this
        simp only [hc, cond_true] at hr
        split at hr
        · rename_i r hr'; cases hr; exact .ptr hb hr'
        · cases hr
    · cases hr
  | eptr _ _ _ => cases hr
  | cptr _ => cases hr; exact .cptr
  | mp _ => cases hr

theorem sl_vr {xs : List AV} (hok : ∀ β, ok β → ok' β) {u : Value} (hv : VR ok h m (.sl xs) u) : VR ok' h m' (.sl xs) u := by
  cases hv with
  | slE h1 => exact .slE h1
  | sl g h1 h2 h3 h4 h5 h6 h7 h8 h9 => exact .sl g h1 h2 (hok _ h3) h4 h5 h6 h7 h8 fun j x hx => (h9 j x hx).mono (fun β C e z k1 k2 => ⟨hok _ k1, k2⟩) (MLe.refl _)

theorem leaf_vr {v : AV} (hl : leafV v = true) (hok : ∀ β, ok β → ok' β) {u : Value} (hv : VR ok h m v u) : VR ok' h m' v u := by
  have : VR ok' h noMap v u ∨ (∃ xs, v = .sl xs) ∨ ∃ t xs, v = .tl t xs := by
    cases hv <;> first | (exact .inr (.inl ⟨_, rfl⟩)) | (exact .inr (.inr ⟨_, _, rfl⟩)) | (left; constructor; done) | (left; exact .str _ _ (by assumption)) | (left; exact .rng _ _ _ _ _ (by assumption) (by assumption) (by assumption)) | (left; exact .ustr _ _ _ (by assumption) (by assumption)) | (left; exact .lin _ _ _ _ _ _ (by assumption) (by assumption) (by assumption)) | (simp [leafV] at hl)
  rcases this with hh | ⟨xs, rfl⟩ | ⟨t, xs, rfl⟩
  · exact hh.mono (fun β C e z h1 h2 => ⟨h1, h2⟩) (fun b L hb => by cases hb)
  · exact sl_vr hok hv
  · exact .tl (sl_vr hok (VR.tl_iff.1 hv))

/-- Values taken whole, part by part. -/
theorem resAll_vr {nz : Bool} {d : Nat} {I : Nat → Prop} (ih : ∀ a y is v, resolve nz H d a = some (y, is) → (∀ b ∈ is, I b) → VR ok h m a v → VR ok' h noMap y v) {cs : List AV} {r : List AV × List Nat} (hr : resAll nz H d cs = some r)
    (hI : ∀ b ∈ r.2, I b) {C : Array Value} {o : Nat} (hc : CR ok h m cs C o) : CR ok' h noMap r.1 C o := by
  obtain ⟨h1, h2⟩ := resAll_some hr
  intro j y hy
  have hj : j < cs.length := by
    rcases Nat.lt_or_ge j cs.length with hj | hj
    · exact hj
    · rw [List.getElem?_eq_none (by omega)] at hy; cases hy
  obtain ⟨y', is, g1, g2, g3⟩ := h2 j cs[j] (List.getElem?_eq_getElem hj)
  rw [hy] at g1; cases g1
  obtain ⟨v, hv, hr'⟩ := hc j cs[j] (List.getElem?_eq_getElem hj)
  exact ⟨v, hv, ih _ _ is v g2 (fun b hb => hI b (g3 b hb)) hr'⟩

theorem resolve_cells {nz : Bool} {d : Nat} {I : Nat → Prop} (ih : ∀ d', d' ≤ d → ∀ a y is v, resolve nz H d' a = some (y, is) → (∀ b ∈ is, I b) → VR ok h m a v → VR ok' h noMap y v) {a y : AV} {is : List Nat}
    (hr : resolve nz H d a = some (y, is)) (hI : ∀ b ∈ is, I b) {C : Array Value} {o : Nat} (hc : CR ok h m a.cells C o) : y.cells.length = a.cells.length ∧ CR ok' h noMap y.cells C o := by
  cases d with
  | zero => simp [resolve] at hr
  | succ d =>
    have one : a.cells = [a] → y.cells = [y] → y.cells.length = a.cells.length ∧ CR ok' h noMap y.cells C o := by
      intro h1 h2
      refine ⟨by rw [h1, h2]; rfl, ?_⟩
      rw [h2]
      intro j x hx
      cases j with
      | zero =>
        simp at hx; subst hx
        obtain ⟨v, hv, hr'⟩ := hc 0 a (by rw [h1]; rfl)
        exact ⟨v, hv, ih (d + 1) (Nat.le_refl _) _ _ is v hr hI hr'⟩
      | succ j => simp at hx
    cases resolve_rsv hr with
    | agg hr' => exact ⟨(resAll_some hr').1, resAll_vr (ih d (Nat.le_succ d)) hr' hI hc⟩
    | tup hr' => exact one rfl rfl
    | fn hr' => exact one rfl rfl
    | ifc hr' => exact one rfl rfl
    | osl h1 h2 h3 => exact one rfl rfl
    | tosl h1 h2 => exact one rfl rfl
    | dosl h1 h2 => exact one rfl rfl
    | dgs h1 h2 => exact one rfl rfl
    | gs h1 h2 => exact one rfl rfl
    | ptr h1 h2 => exact one rfl rfl
    | cptr => exact one rfl rfl
    | nils => exact one rfl (by cases nz <;> rfl)
    | nev => exact one rfl (by cases nz <;> rfl)
    | emp => exact one rfl (by cases nz <;> rfl)
    | leaf hl =>
      cases a <;> first | exact one rfl rfl | (simp [leafV] at hl)

theorem resAll_flat {nz : Bool} {d : Nat} {I : Nat → Prop} (ih : ∀ d', d' ≤ d → ∀ a y is v, resolve nz H d' a = some (y, is) → (∀ b ∈ is, I b) → VR ok h m a v → VR ok' h noMap y v) {s : Nat} : ∀ {cs : List AV} {r : List AV × List Nat}, resAll nz H d cs = some r →
    (∀ b ∈ r.2, I b) → (∀ x ∈ cs, x.cells.length = s) → ∀ {C : Array Value} {o : Nat}, CR ok h m (flat cs) C o → (∀ y ∈ r.1, y.cells.length = s) ∧ CR ok' h noMap (flat r.1) C o
  | [], r, hr, _, _, C, o, _ => by
    simp [resAll] at hr; subst hr
    exact ⟨fun y hy => by simp at hy, fun j x hx => by simp [flat] at hx⟩
  | a :: l, r, hr, hI, hs, C, o, hc => by
    unfold resAll at hr
    rw [List.foldr_cons] at hr
    change (match resAll nz H d l, resolve nz H d a with
      | some ys, some y => some (y.1 :: ys.1, y.2 ++ ys.2)
      | _, _ => none) = some r at hr
    split at hr
    · rename_i ys y hys hy
      cases hr
      rw [flat_cons] at hc
      have ha := hs a (by simp)
      obtain ⟨g1, g2⟩ := resolve_cells ih hy (fun b hb => hI b (List.mem_append.2 (.inl hb))) (fun j x hx => hc j x (by rw [List.getElem?_append_left (List.getElem?_eq_some_iff.1 hx).1]; exact hx))
      obtain ⟨k1, k2⟩ := resAll_flat ih hys (fun b hb => hI b (List.mem_append.2 (.inr hb))) (fun x hx => hs x (by simp [hx])) (C := C) (o := o + s) (fun j x hx => by
        obtain ⟨v, hv, hr'⟩ := hc (s + j) x (by rw [List.getElem?_append_right (by omega), ha, Nat.add_sub_cancel_left]; exact hx)
        exact ⟨v, by rw [Nat.add_assoc]; exact hv, hr'⟩)
      refine ⟨fun z hz => ?_, fun j x hx => ?_⟩
      · rcases List.mem_cons.1 hz with rfl | hz
        · omega
        · exact k1 z hz
      · rw [flat_cons] at hx
        rcases Nat.lt_or_ge j y.1.cells.length with hj | hj
        · rw [List.getElem?_append_left hj] at hx; exact g2 j x hx
        · rw [List.getElem?_append_right hj] at hx
          obtain ⟨v, hv, hr'⟩ := k2 _ x hx
          exact ⟨v, by rw [← hv]; congr 1; omega, hr'⟩
    · cases hr

/-- A part of an array, as a tree. -/
theorem osl_tree {s b lo len s' : Nat} {xs : List AV} {L : Loc} {C : Array Value} {e : TypeId} {z : Nat × Nat} {v : Value} (hm : m b = some L) (j1 : L.sz = s') (j2 : 0 < s') (j3 : L.ext = xs.length) (j5 : h[L.blk]? = some (.cells C e z))
    (k1 : ∀ y ∈ xs, y.cells.length = s') (k2 : CR ok' h noMap (flat xs) C L.off) (hb : ok' L.blk) (hle : lo + len ≤ xs.length) (hv : VR ok h m (.osl s b lo len) v) : VR ok' h noMap (.sl ((xs.drop lo).take len)) v := by
  obtain ⟨L', q1, q2, q3, q4⟩ := hv.osl_inv
  rw [hm] at q1; cases q1
  have hss : s = s' := by omega
  subst hss
  rcases q4 with ⟨q5, q6, a, rfl⟩ | ⟨cp, rfl, q5, q6, q7⟩
  · subst q5; rw [List.take_zero]; exact .slE nofun
  · by_cases h0 : len = 0
    · subst h0; rw [List.take_zero]; exact .slE nofun
    · have hlen : ((xs.drop lo).take len).length = len := by simp; omega
      have hfl : flat ((xs.drop lo).take len) = ((flat xs).drop (lo * s)).take (len * s) := by
        rw [flat_take len (fun y hy => k1 y (List.mem_of_mem_drop hy)), flat_drop lo k1]
      have hcr : CR ok' h noMap (flat ((xs.drop lo).take len)) C (L.off + lo * s) := by
        rw [hfl]; exact (k2.drop (lo * s)).take (len * s)
      obtain ⟨g, g1, g2⟩ := hcr.fun
      refine .sl g (fun e => h0 (by rw [e] at hlen; simpa using hlen.symm)) hlen.symm hb j5 j2 (fun y hy => k1 y (List.mem_of_mem_drop (List.mem_of_mem_take hy))) ?_ g1 g2
      omega

/-- Bytes of one's own, as data. -/
theorem SubR.tree {ok' : Nat → Prop} {h : Array Obj} {m' : Map} {d : List UInt8} {v : Value} {o : Option Sub} (hs : SubR h d v o) (hok : ∀ S, o = some S → ok' S.blk) : VR ok' h m' (.tl .u8 d) v := by
  cases o with
  | none =>
    obtain ⟨rfl, a, rfl⟩ := hs
    exact .tl (.slE fun _ => rfl)
  | some S =>
    obtain ⟨⟨c, rfl, h1, h2⟩, h3, C, e, z, h4, h5, h6, h7, h8⟩ := hs
    refine .tl ?_
    by_cases h0 : d = []
    · subst h0; exact .slE nofun
    · have hfl : flat (encs .u8 d) = encs .u8 d := by
        clear h8 h7 h3 h0
        induction d with
        | nil => rfl
        | cons a l ih => show (enc .u8 a).cells ++ flat (encs .u8 l) = _; rw [ih]; rfl
      refine .sl (s := 1) (fun j => (C[S.off + j]?).getD default) (fun e => h0 (by simpa [encs] using e)) (encs_length .u8 d).symm (hok S rfl) h4 (by omega) (encs_size .u8 d) (by omega) (fun j hj => ?_) (fun j x hx => ?_)
      · rw [hfl, encs_length] at hj
        rw [h8 j d[j] (List.getElem?_eq_getElem hj)]; rfl
      · rw [hfl] at hx
        obtain ⟨hj, e1⟩ := List.getElem?_eq_some_iff.1 hx
        rw [encs_length] at hj
        have e2 : x = enc .u8 d[j] := by rw [← e1]; simp [encs]
        rw [h8 j d[j] (List.getElem?_eq_getElem hj), e2]
        exact .int .u8 _

/-- A row of one's own, its elements' rows too, as data. -/
theorem DeepR.arr {ok' : Nat → Prop} {h : Array Obj} {m' : Map} {L : Loc} {xs : List Blk} (hd : DeepR h L xs 0) (hok : ∀ β, fp (.deep xs 0) L β → ok' β) : ArrR ok' h m' L 2 (encs .blk xs) := by
  obtain ⟨⟨h1, h2⟩, ⟨C, e, z, h3, h4, h5, h6, h7⟩, _⟩ := hd
  refine ⟨h1, by omega, by rw [encs_length]; exact h2, encs_size .blk xs, C, e, z, h3, h4, h5, by rw [encs_length]; exact h6, fun j x hx => ?_⟩
  have hj := (List.getElem?_eq_some_iff.1 hx).1
  rw [flat_length (encs_size .blk xs), encs_length] at hj
  have hj : j < xs.length * 2 := hj
  have hi : j / 2 < xs.length := by omega
  have hei : (encs .blk xs)[j / 2]? = some (enc .blk xs[j / 2]) := by simp [encs, hi]
  have hfl := flat_getElem? (encs_size .blk xs) hei (j := j % 2) (by show j % 2 < 2; omega)
  have e0 : j / 2 * GT.blk.size + j % 2 = j := by show j / 2 * 2 + j % 2 = j; omega
  rw [e0, hx] at hfl
  obtain ⟨k1, v, k2, k3⟩ := h7 (j / 2) xs[j / 2] (List.getElem?_eq_getElem hi) (Nat.zero_le _)
  have e2 : L.off + j = L.off + j / 2 * 2 + j % 2 := by omega
  rcases Nat.mod_two_eq_zero_or_one j with hm | hm
  · rw [hm] at hfl e2
    have : x = .int .i64 xs[j / 2].pos := by have := hfl.symm; simp only [enc, AV.cells] at this; simpa using this.symm
    rw [this, e2, Nat.add_zero, k1]
    exact ⟨_, rfl, .int _ _⟩
  · rw [hm] at hfl e2
    have : x = .tl .u8 xs[j / 2].data := by have := hfl.symm; simp only [enc, AV.cells] at this; simpa using this.symm
    rw [this, e2, k2]
    exact ⟨_, rfl, k3.tree fun S hS => hok _ (.inr ⟨xs, 0, j / 2, S, rfl, Nat.zero_le _, hi, hS, rfl⟩)⟩

omit [Syms] in
theorem enc_leaf (t : GT) (x : t.T) : ∀ y ∈ (enc t x).cells, leafV y = true := by
  have : (enc t x).cells.all leafV = true := by cases t <;> rfl
  exact List.all_eq_true.1 this

theorem encs_flat_vr (hok : ∀ β, ok β → ok' β) {t : GT} {xs : List t.T} {C : Array Value} {o : Nat} (hc : CR ok h m (flat (encs t xs)) C o) : CR ok' h m' (flat (encs t xs)) C o := by
  intro j x hx
  obtain ⟨v, hv, hr⟩ := hc j x hx
  refine ⟨v, hv, leaf_vr ?_ hok hr⟩
  obtain ⟨y, hy, hxy⟩ := List.mem_flatMap.1 (List.mem_of_getElem? hx)
  obtain ⟨q, _, rfl⟩ := List.mem_map.1 hy
  exact enc_leaf t q x hxy

/-- A value taken whole. -/
theorem resolve_vrI {nz : Bool} {I : Nat → Prop} (hok : ∀ β, ok β → ok' β) (hA : ∀ b o L, I b → hget H b = some o → m b = some L → ObjR ok h m L o) (hI : ∀ b o L β, I b → hget H b = some o → m b = some L → fp o L β → ok' β) : ∀ d a y is v, resolve nz H d a = some (y, is) → (∀ b ∈ is, I b) → VR ok h m a v → VR ok' h noMap y v := by
  intro d
  induction d using Nat.strongRecOn with
  | _ d ih =>
    intro a y is v hr hi hv
    cases d with
    | zero => simp [resolve] at hr
    | succ d =>
      have ih' := ih d (Nat.lt_succ_self d)
      have ihs : ∀ d', d' ≤ d → ∀ a y is v, resolve nz H d' a = some (y, is) → (∀ b ∈ is, I b) → VR ok h m a v → VR ok' h noMap y v := fun d' hd' => ih d' (by omega)
      cases resolve_rsv hr with
      | agg hr' =>
        obtain ⟨us, rfl, h1, h2⟩ := hv.agg_inv
        exact .agg' (by rw [(resAll_some hr').1]; exact h1) (resAll_vr ih' hr' hi h2)
      | tup hr' =>
        obtain ⟨us, rfl, h1, h2⟩ := hv.tup_inv
        exact .tup' (by rw [(resAll_some hr').1]; exact h1) (resAll_vr ih' hr' hi h2)
      | fn hr' =>
        obtain ⟨us, rfl, h1, h2⟩ := hv.fn_inv
        exact .fn' (by rw [(resAll_some hr').1]; exact h1) (resAll_vr ih' hr' hi h2)
      | ifc hr' =>
        cases hv with
        | ifc hv' => exact .ifc (ih' _ _ _ _ hr' hi hv')
      | nils =>
        cases hv
        cases nz
        · exact .nils
        · exact .slE fun _ => rfl
      | nev =>
        cases hv
        cases nz
        · exact .nev
        · exact .slE nofun
      | emp =>
        cases hv
        cases nz
        · exact .emp
        · exact .slE fun _ => rfl
      | leaf hl => exact leaf_vr hl hok hv
      | @osl s b lo len s' xs r hb hle hr' =>
        obtain ⟨L, hm, _⟩ := hv.osl_inv
        obtain ⟨j1, j2, j3, j4, C, e, z, j5, j6, j7, j8, j9⟩ := hA b _ L (hi b (by simp)) hb hm
        obtain ⟨k1, k2⟩ := resAll_flat ihs hr' (fun b' hb' => hi b' (List.mem_cons_of_mem _ hb')) j4 j9
        have hrl := (resAll_some hr').1
        exact osl_tree hm j1 j2 (by omega) j5 k1 k2 (hI b _ L _ (hi b (by simp)) hb hm (.inl rfl)) (by omega) hv
      | @tosl s b lo len t xs hb hle =>
        obtain ⟨L, hm, _⟩ := hv.osl_inv
        obtain ⟨j1, j2, j3, j4, C, e, z, j5, j6, j7, j8, j9⟩ := hA b _ L (hi b (by simp)) hb hm
        have hflat : CR ok' h noMap (flat (encs t xs)) C L.off := encs_flat_vr hok j9
        have := osl_tree hm j1 j2 (by omega) j5 j4 hflat (hI b _ L _ (hi b (by simp)) hb hm (.inl rfl)) (by rw [encs_length]; exact hle) hv
        refine .tl ?_
        have e1 : encs t ((xs.drop lo).take len) = ((encs t xs).drop lo).take len := by simp [encs, List.map_take, List.map_drop]
        rw [e1]; exact this
      | @dosl s b lo len xs hb hle =>
        obtain ⟨L, hm, _⟩ := hv.osl_inv
        obtain ⟨j1, j2, j3, j4, C, e, z, j5, j6, j7, j8, j9⟩ := DeepR.arr (m' := noMap) (hA b _ L (hi b (by simp)) hb hm) (fun β hβ => hI b _ L β (hi b (by simp)) hb hm hβ)
        have := osl_tree hm j1 j2 j3 j5 j4 j9 (hI b _ L _ (hi b (by simp)) hb hm (.inl rfl)) (by rw [encs_length]; exact hle) hv
        refine .tl ?_
        have e1 : encs .blk ((xs.drop lo).take len) = ((encs .blk xs).drop lo).take len := by simp [encs, List.map_take, List.map_drop]
        rw [e1]; exact this
      | cptr =>
        cases hv with
        | cptr g h1 h2 h3 h4 => exact .cptr g (hok _ h1) h2 h3 fun j y hy => (h4 j y hy).mono (fun β C e z k1 k2 => ⟨hok _ k1, k2⟩) (MLe.refl _)
      | @ptr b cs r hb hr' =>
        obtain ⟨L, hm, rfl⟩ := hv.ptr_inv
        obtain ⟨j1, C, e, z, j2, j3, j4, j5⟩ := hA b _ L (hi b (by simp)) hb hm
        have hcr := resAll_vr ih' hr' (fun b' hb' => hi b' (List.mem_cons_of_mem _ hb')) j5
        obtain ⟨g, g1, g2⟩ := hcr.fun
        rw [j1]
        exact .cptr g (hI b _ L _ (hi b (by simp)) hb hm (.inl rfl)) j2 g1 g2
      | @dgs g b n xs hb hn =>
        cases hv with
        | gsE =>
          obtain rfl : xs = [] := List.length_eq_zero_iff.1 hn.symm
          exact .tl (.slE fun _ => rfl)
        | gs hv =>
          obtain ⟨L, hm, _⟩ := hv.osl_inv
          obtain ⟨j1, j2, j3, j4, C, e, z, j5, j6, j7, j8, j9⟩ := DeepR.arr (m' := noMap) (hA b _ L (hi b (by simp)) hb hm) (fun β hβ => hI b _ L β (hi b (by simp)) hb hm hβ)
          have := osl_tree hm j1 j2 j3 j5 j4 j9 (hI b _ L _ (hi b (by simp)) hb hm (.inl rfl)) (by rw [encs_length]; omega) hv
          refine .tl ?_
          have e1 : encs .blk xs = ((encs .blk xs).drop 0).take n := by rw [List.drop_zero, hn, ← encs_length .blk xs, List.take_length]
          rw [e1]; exact this
      | @gs g b n t xs hb hn =>
        cases hv with
        | gsE =>
          obtain rfl : xs = [] := List.length_eq_zero_iff.1 hn.symm
          exact .tl (.slE fun _ => rfl)
        | gs hv =>
          obtain ⟨L, hm, _⟩ := hv.osl_inv
          obtain ⟨j1, j2, j3, j4, C, e, z, j5, j6, j7, j8, j9⟩ := hA b _ L (hi b (by simp)) hb hm
          have hflat : CR ok' h noMap (flat (encs t xs)) C L.off := encs_flat_vr hok j9
          have := osl_tree hm j1 j2 (by omega) j5 j4 hflat (hI b _ L _ (hi b (by simp)) hb hm (.inl rfl)) (by rw [encs_length]; omega) hv
          refine .tl ?_
          have e1 : encs t xs = ((encs t xs).drop 0).take n := by rw [List.drop_zero, hn, ← encs_length t xs, List.take_length]
          rw [e1]; exact this


theorem resolve_vr {nz : Bool} {I : Nat → Prop} (hok : ∀ β, ok β → ok' β) (hA : ArrsR ok h m H) (hI : ∀ b o L β, I b → hget H b = some o → m b = some L → fp o L β → ok' β) : ∀ d a y is v, resolve nz H d a = some (y, is) → (∀ b ∈ is, I b) → VR ok h m a v → VR ok' h noMap y v :=
  resolve_vrI hok (fun b o L _ h1 h2 => hA b o L h1 h2) hI

omit [Syms] in
theorem resAll_of {nz : Bool} : ∀ {l : List AV} {q : List AV × List Nat}, resolveAll nz H l = some q → resAll nz H DEEP l = some q
  | [], q, hq => hq
  | a :: l, q, hq => by
    rw [resolveAll] at hq
    split at hq
    · rename_i y q' hy hq'
      cases hq
      unfold resAll
      rw [List.foldr_cons]
      show (match resAll nz H DEEP l, resolve nz H DEEP a with
        | some ys, some y => some (y.1 :: ys.1, y.2 ++ ys.2)
        | _, _ => none) = _
      rw [resAll_of hq', hy]
    · cases hq

end
end Go.Proofs.Ytmkmjjodiicmlaa.VS

/- Values and heaps that tell others; rows of trees as rows of data. Conditions: none. -/
namespace Go.Proofs.Ytmkmjjodiicmlaa.VS
variable [Syms]

/-- What tells a value tells another one. -/
def VLe (a b : AV) : Prop := ∀ (ok : Nat → Prop) (h : Array Obj) (m : Map) (v : Value), VR ok h m a v → VR ok h m b v

theorem VLe.refl (a : AV) : VLe a a := fun _ _ _ _ h => h
theorem VLe.trans {a b c : AV} (h : VLe a b) (k : VLe b c) : VLe a c := fun ok hh m v x => k ok hh m v (h ok hh m v x)
theorem VLe.dead (a : AV) : VLe a .dead := fun _ _ _ _ _ => .dead

/-- Cells that tell cells. -/
def CLe (ps qs : List AV) : Prop := ps.length = qs.length ∧ ∀ (j : Nat) (a b : AV), ps[j]? = some a → qs[j]? = some b → VLe a b

theorem CLe.refl (ps : List AV) : CLe ps ps := ⟨rfl, fun j a b h k => by rw [h] at k; cases k; exact VLe.refl a⟩
theorem CLe.nil : CLe [] [] := CLe.refl []
theorem CLe.cons {a b : AV} {ps qs : List AV} (h : VLe a b) (k : CLe ps qs) : CLe (a :: ps) (b :: qs) :=
  ⟨by simp [k.1], fun j x y hx hy => by
    cases j with
    | zero => simp at hx hy; subst hx; subst hy; exact h
    | succ j => exact k.2 j x y (by simpa using hx) (by simpa using hy)⟩
theorem CLe.append {ps qs cs ds : List AV} (h : CLe ps qs) (k : CLe cs ds) : CLe (ps ++ cs) (qs ++ ds) :=
  ⟨by simp [h.1, k.1], fun j x y hx hy => by
    rcases Nat.lt_or_ge j ps.length with hj | hj
    · rw [List.getElem?_append_left hj] at hx
      rw [List.getElem?_append_left (by rw [← h.1]; exact hj)] at hy
      exact h.2 j x y hx hy
    · rw [List.getElem?_append_right hj] at hx
      rw [List.getElem?_append_right (by rw [← h.1]; exact hj), ← h.1] at hy
      exact k.2 _ x y hx hy⟩

theorem CR.le {ok : Nat → Prop} {h : Array Obj} {m : Map} {ps qs : List AV} {C : Array Value} {o : Nat} (H : CR ok h m ps C o) (hl : CLe ps qs) : CR ok h m qs C o := fun j b hb => by
  have hj : j < qs.length := by
    rcases Nat.lt_or_ge j qs.length with hj | hj
    · exact hj
    · simp [List.getElem?_eq_none hj] at hb
  have hj' : j < ps.length := by rw [hl.1]; exact hj
  obtain ⟨v, hv, hr⟩ := H j ps[j] (List.getElem?_eq_getElem hj')
  exact ⟨v, hv, hl.2 j _ b (List.getElem?_eq_getElem hj') hb _ _ _ _ hr⟩

theorem VLe.agg {ps qs : List AV} (h : CLe ps qs) : VLe (.agg ps) (.agg qs) := fun ok hh m v hv => by
  obtain ⟨vs, rfl, h1, h2⟩ := hv.agg_inv
  exact .agg' (by rw [h1, h.1]) (h2.le h)
theorem VLe.tup {ps qs : List AV} (h : CLe ps qs) : VLe (.tup ps) (.tup qs) := fun ok hh m v hv => by
  obtain ⟨vs, rfl, h1, h2⟩ := hv.tup_inv
  exact .tup' (by rw [h1, h.1]) (h2.le h)
theorem VLe.fn {f : FuncId} {ps qs : List AV} (h : CLe ps qs) : VLe (.fn f ps) (.fn f qs) := fun ok hh m v hv => by
  obtain ⟨vs, rfl, h1, h2⟩ := hv.fn_inv
  exact .fn' (by rw [h1, h.1]) (h2.le h)

/-- An element that is told as data. -/
structure Dec1 (g : GT) (a : AV) (x : g.T) : Prop where
  fits : a.fits = true
  cells : CLe a.cells (enc g x).cells
  le : VLe a (enc g x)

theorem Dec1.size {g : GT} {a : AV} {x : g.T} (h : Dec1 g a x) : a.cells.length = g.size := by rw [h.cells.1, enc_size]

theorem Dec1.one {g : GT} {a : AV} {x : g.T} (h1 : a.cells = [a]) (h2 : (enc g x).cells = [enc g x]) (hf : a.fits = true) (h : VLe a (enc g x)) : Dec1 g a x :=
  ⟨hf, by rw [h1, h2]; exact .cons h .nil, h⟩

theorem Dec1.aggs {g : GT} {x : g.T} {ps qs : List AV} (h2 : enc g x = .agg qs) (hf : ps.all AV.one = true) (h : CLe ps qs) : Dec1 g (.agg ps) x :=
  ⟨hf, by rw [h2]; exact h, by rw [h2]; exact .agg h⟩

theorem Dec1.enc (g : GT) (x : g.T) : Dec1 g (enc g x) x := ⟨enc_one g x, CLe.refl _, VLe.refl _⟩

theorem Dec1.of_eq {g : GT} {a : AV} {x : g.T} (h : Go.Proofs.Ytmkmjjodiicmlaa.VS.enc g x = a) : Dec1 g a x := h ▸ Dec1.enc g x

/-- A row of elements, as data. -/
inductive DRow (g : GT) : List AV → List g.T → Prop
  | nil : DRow g [] []
  | cons {a x ps xs} : Dec1 g a x → DRow g ps xs → DRow g (a :: ps) (x :: xs)

theorem DRow.length {g : GT} {ps : List AV} {xs : List g.T} (h : DRow g ps xs) : ps.length = xs.length := by
  induction h with
  | nil => rfl
  | cons _ _ ih => simp [ih]

theorem DRow.flat {g : GT} {ps : List AV} {xs : List g.T} (h : DRow g ps xs) : CLe (flat ps) (flat (encs g xs)) := by
  induction h with
  | nil => exact .nil
  | cons h1 _ ih => rw [flat_cons, show encs g (_ :: _) = enc g _ :: encs g _ from rfl, flat_cons]; exact h1.cells.append ih

theorem DRow.sizes {g : GT} {ps : List AV} {xs : List g.T} (h : DRow g ps xs) : ∀ a ∈ ps, a.cells.length = g.size := by
  induction h with
  | nil => intro a ha; simp at ha
  | cons h1 _ ih =>
    intro a ha
    rcases List.mem_cons.1 ha with rfl | ha
    · exact h1.size
    · exact ih a ha

theorem DRow.fits {g : GT} {ps : List AV} {xs : List g.T} (h : DRow g ps xs) : ps.all (fitsN g.size) = true := by
  induction h with
  | nil => rfl
  | cons h1 _ ih =>
    rw [List.all_cons, ih, Bool.and_true]
    unfold fitsN
    rw [h1.fits, h1.size, beq_same]; rfl

theorem DRow.append {g : GT} {ps qs : List AV} {xs ys : List g.T} (h : DRow g ps xs) (k : DRow g qs ys) : DRow g (ps ++ qs) (xs ++ ys) := by
  induction h with
  | nil => exact k
  | cons h1 _ ih => exact .cons h1 ih

theorem DRow.encs (g : GT) : ∀ xs : List g.T, DRow g (encs g xs) xs
  | [] => .nil
  | x :: xs => .cons (Dec1.enc g x) (DRow.encs g xs)

theorem DRow.take {g : GT} {ps : List AV} {xs : List g.T} (h : DRow g ps xs) : ∀ n, DRow g (ps.take n) (xs.take n) := by
  induction h with
  | nil => intro n; simp; exact .nil
  | cons h1 _ ih =>
    intro n
    cases n with
    | zero => exact .nil
    | succ n => exact .cons h1 (ih n)

theorem DRow.drop {g : GT} {ps : List AV} {xs : List g.T} (h : DRow g ps xs) : ∀ n, DRow g (ps.drop n) (xs.drop n) := by
  induction h with
  | nil => intro n; simp; exact .nil
  | cons h1 h2 ih =>
    intro n
    cases n with
    | zero => exact .cons h1 h2
    | succ n => exact ih n

theorem DRow.replicate {g : GT} {a : AV} {x : g.T} (h : Dec1 g a x) : ∀ n, DRow g (List.replicate n a) (List.replicate n x)
  | 0 => .nil
  | n + 1 => by rw [List.replicate_succ, List.replicate_succ]; exact .cons h (DRow.replicate h n)

theorem VLe.row {g : GT} {ps : List AV} {xs : List g.T} (h : DRow g ps xs) : VLe (.sl ps) (.tl g xs) := fun ok hh m v hv => by
  refine .tl ?_
  cases hv with
  | slE h1 => cases h; exact .slE h1
  | sl gg h1 hn h2 h3 h4 h5 h6 h7 h8 =>
    obtain ⟨gg', k1, k2⟩ := ((CR.mk h7 h8).le h.flat).fun
    have hsz : ∀ {s : Nat}, (∀ x ∈ ps, x.cells.length = s) → ps ≠ [] → s = g.size := by
      intro s hs hne
      cases h with
      | nil => exact absurd rfl hne
      | @cons a x ps xs q1 q2 => rw [← hs a (by simp)]; exact q1.size
    have := hsz h5 h1
    subst this
    exact .sl gg' (fun e => h1 (List.length_eq_zero_iff.1 (by rw [h.length, ← encs_length g, e]; rfl))) (by rw [hn, h.length, encs_length]) h2 h3 h4 (encs_size g xs) h6 k1 k2

section decoders
theorem byteOf_dec {a : AV} {x : UInt8} (h : byteOf a = some x) : Dec1 .u8 a x := by
  unfold byteOf at h
  split at h
  · rename_i n
    split at h
    · rename_i hn
      cases h
      have e : enc .u8 (UInt8.ofNat n.toNat) = .int .u8 n := by
        show AV.int .u8 ((UInt8.ofNat n.toNat).toNat : Int) = _
        congr 1
        rw [UInt8.toNat_ofNat']
        omega
      exact .one rfl rfl rfl (by rw [e]; exact .refl _)
    · cases h
  · cases h

theorem decAll_row {g : GT} {d : AV → Option g.T} (hd : ∀ a x, d a = some x → Dec1 g a x) : ∀ {ps : List AV} {xs : List g.T}, decAll d ps = some xs → DRow g ps xs
  | [], xs, h => by simp [decAll] at h; subst h; exact .nil
  | a :: ps, xs, h => by
    rw [decAll] at h
    split at h
    · rename_i x l hx hl
      cases h
      exact .cons (hd a x hx) (decAll_row hd hl)
    · cases h

theorem listOf_le {g : GT} {d : AV → Option g.T} (hd : ∀ a x, d a = some x → Dec1 g a x) {a : AV} {xs : List g.T} (h : listOf g d a = some xs) : VLe a (.tl g xs) := by
  unfold listOf at h
  split at h
  · rename_i t' ys
    split at h
    · rename_i e
      subst e
      cases h
      exact .refl _
    · cases h
  · cases h; exact fun ok hh m v hv => by cases hv; exact .tl (.slE fun _ => rfl)
  · cases h; exact fun ok hh m v hv => by cases hv; exact .tl (.slE fun _ => rfl)
  · cases h; exact fun ok hh m v hv => by cases hv; exact .tl (.slE nofun)
  · exact .row (decAll_row hd h)
  · cases h

omit [Syms] in
theorem listOf_one {g : GT} {d : AV → Option g.T} {a : AV} {xs : List g.T} (h : listOf g d a = some xs) : a.one = true := by
  unfold listOf at h
  split at h <;> first | rfl | cases h

omit [Syms] in
theorem int_one (n : Int) : (AV.int .i64 n).one = true := rfl

theorem decNam_dec {a : AV} {x : Nam} (h : decNam a = some x) : Dec1 .nam a x := by
  unfold decNam at h
  split at h
  · cases h; exact .of_eq rfl
  · cases h
theorem decStr_dec {a : AV} {x : Str} (h : decStr a = some x) : Dec1 .str a x := by
  unfold decStr at h
  split at h
  · cases h; exact .of_eq rfl
  · cases h
theorem decInt_dec {a : AV} {x : Int} (h : decInt a = some x) : Dec1 .int a x := by
  unfold decInt at h
  split at h
  · cases h; exact .of_eq rfl
  · cases h
theorem ub_le (b : Bool) : VLe (.bool b) (.ub b) := fun ok hh m v hv => by cases hv; exact .ub b
theorem bool_le (b : Bool) : VLe (.ub b) (.bool b) := fun ok hh m v hv => by cases hv; exact .bool b
theorem decBool_dec {a : AV} {x : Bool} (h : decBool a = some x) : Dec1 .bool a x := by
  unfold decBool at h
  split at h
  · cases h; exact .one rfl rfl rfl (ub_le _)
  · cases h; exact .of_eq rfl
  · cases h
theorem list_cells {g g' : GT} {d : AV → Option g.T} {a : AV} {xs : List g.T} (h : listOf g d a = some xs) (hd : ∀ a x, d a = some x → Dec1 g a x) {y : g'.T} (he : enc g' y = .tl g xs) : Dec1 g' a y := by
  have h1 := listOf_one h
  refine .one ?_ (by rw [he]; rfl) ?_ (by rw [he]; exact listOf_le hd h)
  · unfold listOf at h
    split at h <;> first | rfl | cases h
  · unfold listOf at h
    split at h <;> first | rfl | cases h
theorem decStrs_dec {a : AV} {x : List Str} (h : decStrs a = some x) : Dec1 .strs a x := list_cells (g := .str) h (fun _ _ => decStr_dec) rfl
theorem decBlk_dec {a : AV} {x : Blk} (h : decBlk a = some x) : Dec1 .blk a x := by
  unfold decBlk at h
  split at h
  · split at h
    · rename_i d b hb
      cases h
      exact .aggs rfl (by simp only [List.all_cons, List.all_nil, listOf_one (g := .u8) hb]; rfl) (.cons (.refl _) (.cons (listOf_le (g := .u8) (fun _ _ => byteOf_dec) hb) .nil))
    · cases h
  · cases h
theorem decNod_dec {a : AV} {x : Nod} (h : decNod a = some x) : Dec1 .nod a x := by
  unfold decNod at h
  split at h
  · split at h
    · rename_i _ _ l n hl hn
      cases h
      exact .aggs rfl (by simp only [List.all_cons, List.all_nil, listOf_one (g := .blk) hl, listOf_one (g := .nam) hn]; rfl) (.cons (.refl _) (.cons (.refl _) (.cons (.refl _) (.cons (.refl _) (.cons (.refl _) (.cons (listOf_le (g := .blk) (fun _ _ => decBlk_dec) hl) (.cons (.refl _) (.cons (listOf_le (g := .nam) (fun _ _ => decNam_dec) hn) .nil))))))))
    · cases h
  · cases h
theorem decDsk_dec {a : AV} {x : Dsk} (h : decDsk a = some x) : Dec1 .dsk a x := by
  unfold decDsk at h
  split at h
  · split at h
    · rename_i _ l hl
      cases h
      exact .aggs rfl (by simp only [List.all_cons, List.all_nil, listOf_one (g := .nod) hl]; rfl) (.cons (.refl _) (.cons (.refl _) (.cons (.refl _) (.cons (listOf_le (g := .nod) (fun _ _ => decNod_dec) hl) .nil))))
    · cases h
  · cases h
theorem decOpn_dec {a : AV} {x : Opn} (h : decOpn a = some x) : Dec1 .opn a x := by
  unfold decOpn at h
  split at h
  · split at h
    · rename_i _ l hl
      cases h
      exact .aggs rfl (by simp only [List.all_cons, List.all_nil, listOf_one (g := .u8) hl]; rfl) (.cons (.refl _) (.cons (.refl _) (.cons (.refl _) (.cons (.refl _) (.cons (.refl _) (.cons (.refl _) (.cons (listOf_le (g := .u8) (fun _ _ => byteOf_dec) hl) .nil)))))))
    · cases h
  · cases h
theorem decSpt_dec {a : AV} {x : Spt} (h : decSpt a = some x) : Dec1 .spt a x := by
  unfold decSpt at h
  split at h
  · cases h; exact .of_eq rfl
  · cases h
theorem decRow_dec {a : AV} {x : Rwo} (h : decRow a = some x) : Dec1 .row a x := by
  unfold decRow at h
  split at h
  · cases h; exact .of_eq rfl
  · cases h
theorem decAkt_dec {a : AV} {x : Akt} (h : decAkt a = some x) : Dec1 .akt a x := by
  unfold decAkt at h
  split at h
  · split at h
    · rename_i _ l hl
      cases h
      exact .aggs rfl (by simp only [List.all_cons, List.all_nil, listOf_one (g := .u8) hl]; rfl) (.cons (.refl _) (.cons (.refl _) (.cons (listOf_le (g := .u8) (fun _ _ => byteOf_dec) hl) .nil)))
    · cases h
  · cases h

theorem dec_dec : ∀ (g : GT) (a : AV) (x : g.T), dec g a = some x → Dec1 g a x
  | .u8, _, _, h => byteOf_dec h
  | .bool, _, _, h => decBool_dec h
  | .int, _, _, h => decInt_dec h
  | .str, _, _, h => decStr_dec h
  | .strs, _, _, h => decStrs_dec h
  | .nam, _, _, h => decNam_dec h
  | .blk, _, _, h => decBlk_dec h
  | .nod, _, _, h => decNod_dec h
  | .dsk, _, _, h => decDsk_dec h
  | .opn, _, _, h => decOpn_dec h
  | .opns, _, _, h => list_cells (g := .opn) h (fun _ _ => decOpn_dec) rfl
  | .spt, _, _, h => decSpt_dec h
  | .row, _, _, h => decRow_dec h
  | .akt, _, _, h => decAkt_dec h
  | .bss, _, _, h => list_cells (g := .u8) h (fun _ _ => byteOf_dec) rfl
  | .rss, _, _, h => list_cells (g := .row) h (fun _ _ => decRow_dec) rfl

theorem decL_le {g : GT} {a : AV} {xs : List g.T} (h : decL g a = some xs) : VLe a (.tl g xs) := listOf_le (dec_dec g) h
end decoders

/-- What tells an object tells another one. -/
def ObjLe (o o1 : AObj) : Prop := (∀ (ok : Nat → Prop) (h : Array Obj) (m : Map) (L : Loc), ObjR ok h m L o → ObjR ok h m L o1) ∧ (Void o → Void o1) ∧ ∀ L β, fp o1 L β → fp o L β

theorem ObjLe.refl (o : AObj) : ObjLe o o := ⟨fun _ _ _ _ h => h, id, fun _ _ h => h⟩

def HLe (H H1 : Heap) : Prop := ∀ b, (hget H b = none ∧ hget H1 b = none) ∨ ∃ o o1, hget H b = some o ∧ hget H1 b = some o1 ∧ ObjLe o o1

theorem HLe.refl (H : Heap) : HLe H H := fun b => by
  cases h : hget H b with
  | none => exact .inl ⟨rfl, rfl⟩
  | some o => exact .inr ⟨o, o, rfl, rfl, .refl o⟩

theorem HLe.trans {A B C : Heap} (h : HLe A B) (k : HLe B C) : HLe A C := fun x => by
  rcases h x with ⟨h1, h2⟩ | ⟨o, o1, h1, h2, h3⟩
  · rcases k x with ⟨k1, k2⟩ | ⟨o, o1, k1, k2, k3⟩
    · exact .inl ⟨h1, k2⟩
    · rw [h2] at k1; cases k1
  · rcases k x with ⟨k1, k2⟩ | ⟨o', o1', k1, k2, k3⟩
    · rw [h2] at k1; cases k1
    · rw [h2] at k1; cases k1
      exact .inr ⟨o, o1', h1, k2, fun ok hh m L hr => k3.1 ok hh m L (h3.1 ok hh m L hr), fun hv => k3.2.1 (h3.2.1 hv), fun L β h => h3.2.2 L β (k3.2.2 L β h)⟩
theorem HLe.set {H H1 : Heap} (h : HLe H H1) {o o1 : AObj} (ho : ObjLe o o1) (b : Nat) : HLe (hset H b o) (hset H1 b o1) := fun x => by
  rw [hget_hset, hget_hset]
  by_cases e : b = x
  · rw [if_pos e, if_pos e]; exact .inr ⟨o, o1, rfl, rfl, ho⟩
  · rw [if_neg e, if_neg e]; exact h x

theorem HLe.del {H H1 : Heap} (h : HLe H H1) (b : Nat) : HLe (hdel H b) (hdel H1 b) := fun x => by
  rw [hget_hdel, hget_hdel]
  by_cases e : b = x
  · rw [if_pos e, if_pos e]; exact .inl ⟨rfl, rfl⟩
  · rw [if_neg e, if_neg e]; exact h x

/-- An object that stands in another one's place. -/
theorem HLe.put {H : Heap} {b : Nat} {o o1 : AObj} (hb : hget H b = some o) (h : ObjLe o o1) : HLe H (hset H b o1) := fun x => by
  rw [hget_hset]
  by_cases e : b = x
  · subst e; rw [if_pos rfl]; exact .inr ⟨o, o1, hb, rfl, h⟩
  · rw [if_neg e]; exact HLe.refl H x
theorem HLe.back {H : Heap} {b : Nat} {o o1 : AObj} (hb : hget H b = some o) (h : ObjLe o1 o) : HLe (hset H b o1) H := fun x => by
  rw [hget_hset]
  by_cases e : b = x
  · subst e; rw [if_pos rfl]; exact .inr ⟨o1, o, rfl, hb, h⟩
  · rw [if_neg e]; exact HLe.refl H x

theorem okB_le {X : Nat → Prop} {m : Map} {H H1 : Heap} {F : List Nat} (h : HLe H H1) {β : Nat} : okB X m H F β → okB X m H1 F β := fun ho =>
  ⟨ho.1, fun b o L hb hf hm => by
    rcases h b with ⟨_, h2⟩ | ⟨o', o1, h1, h2, h3⟩
    · rw [h2] at hb; cases hb
    · rw [h2] at hb; cases hb
      exact fun hfp => ho.2 b o' L h1 hf hm (h3.2.2 L β hfp)⟩

theorem SR.le {c : Ctx} {m : Map} {H H1 : Heap} {F : List Nat} {w : World} (hs : SR c m H F w) (h : HLe H H1) : SR c m H1 F w := by
  have back : ∀ {b o}, hget H1 b = some o → ∃ o', hget H b = some o' ∧ ObjLe o' o := fun {b o} hb => by
    rcases h b with ⟨_, h2⟩ | ⟨o', o1, h1, h2, h3⟩
    · rw [h2] at hb; cases hb
    · rw [h2] at hb; cases hb; exact ⟨o', h1, h3⟩
  refine ⟨hs.xlt, fun b o hb => ?_, fun b o b' o' L L' β h1 h2 h3 h4 h5 h6 => ?_, fun b o L β hb h2 h3 => ?_, fun b o L β hb h2 h3 => ?_, hs.keep⟩
  · obtain ⟨o', h1, h2⟩ := back hb
    exact (hs.all b o' h1).imp (fun ⟨L, k1, k2⟩ => ⟨L, k1, (h2.1 _ _ _ _ k2).mono (fun β C e z ho hh => ⟨okB_le h ho, hh⟩) (MLe.refl m) (fun _ _ => rfl)⟩) (fun ⟨k1, k2⟩ => ⟨k1, h2.2.1 k2⟩)
  · obtain ⟨p, p1, p2⟩ := back h1
    obtain ⟨q, q1, q2⟩ := back h2
    exact hs.injf b p b' q L L' β p1 q1 h3 h4 (p2.2.2 L β h5) (q2.2.2 L' β h6)
  · obtain ⟨p, p1, p2⟩ := back hb
    exact hs.noxf b p L β p1 h2 (p2.2.2 L β h3)
  · obtain ⟨p, p1, p2⟩ := back hb
    exact hs.ownf b p L β p1 h2 (p2.2.2 L β h3)

theorem DRow.obj {g : GT} {ps : List AV} {xs : List g.T} (h : DRow g ps xs) : ObjLe (.arr g.size ps) (.tarr g xs) := ⟨fun ok hh m L hr => by
  obtain ⟨h1, h2, h3, h4, C, e, z, h5, h6, h7, h8, h9⟩ := hr
  exact ⟨h1, h2, by rw [h3, h.length, encs_length], encs_size g xs, C, e, z, h5, h6, h7, by rw [encs_length, ← h.length]; exact h8, h9.le h.flat⟩, (fun hv => by
  rcases hv with ⟨t, hv⟩ | ⟨t, hv⟩ | ⟨t, hv⟩
  · cases hv
  · have := (AObj.arr.inj hv).2
    subst this
    cases h
    exact .inl ⟨_, rfl⟩
  · cases hv), fun L β h => .inl ((flat_tarr _ _).fp h)⟩

theorem tarr_le (g : GT) (xs : List g.T) : ObjLe (.tarr g xs) (.arr g.size (encs g xs)) := ⟨fun _ _ _ _ h => h, (fun h => by
  rcases h with ⟨t, h⟩ | ⟨t, h⟩ | ⟨t, h⟩ <;> cases h
  exact .inr (.inl ⟨_, rfl⟩)), fun L β h => .inl ((flat_arr _ _).fp h)⟩
theorem arr_le (g : GT) (xs : List g.T) : ObjLe (.arr g.size (encs g xs)) (.tarr g xs) := ⟨fun _ _ _ _ h => h, (fun h => by
  rcases h with ⟨t, h⟩ | ⟨t, h⟩ | ⟨t, h⟩
  · cases h
  · have := (AObj.arr.inj h).2
    have : xs = [] := List.length_eq_zero_iff.1 (by rw [← encs_length g xs, this]; rfl)
    subst this
    exact .inl ⟨_, rfl⟩
  · cases h), fun L β h => .inl ((flat_tarr _ _).fp h)⟩

omit [Syms] in
theorem listOf_tl {g g' : GT} {d : AV → Option g.T} {xs : List g'.T} {l : List g.T} (h : listOf g d (.tl g' xs) = some l) : ∃ e : g' = g, l = e ▸ xs := by
  unfold listOf at h
  simp only at h
  split at h
  · rename_i e; cases h; exact ⟨e, rfl⟩
  · cases h

omit [Syms] in
/-- A row that was told as data again, or as it was. -/
theorem tellB_inv {tell : Bool} {id : Nat} {H : Heap} {F : List Nat} {b : Builtin} {args : List AV} {r : Res} {v : AV} {e : Eff} {rd fz : List Nat} (h : tellB tell id H F b args r = .ok v e rd fz) :
    r = .ok v e rd fz ∨ (∃ g bb n x g' l zs i n' cs b', b = .append ∧ args = [.gs g bb n, x] ∧ hlive H F bb = some (.tarr g' l) ∧ dataOf H F id g' x = some zs ∧ (∃ rd0, r = .ok v [(i, some (.arr n' cs)), (b', none)] rd0 fz ∧ rd = rd0 ++ zs.2) ∧ e = [(i, some (.tarr g' (l ++ zs.1))), (b', none)]) ∨
    ∃ s g xs v0 e0, b = .append ∧ args = [s, .tl g xs] ∧ (s = .nils ∨ s = .emp) ∧ r = .ok v0 e0 rd fz ∧ v = .gs g id xs.length ∧ e = [(id, some (.tarr g xs))] := by
  unfold tellB at h
  cases tell with
  | false => exact .inl h
  | true =>
    rw [cond_true] at h
    split at h
    · rename_i s x
      have nl : (s = .nils ∨ s = .emp) → tellNil id x r = .ok v e rd fz → r = .ok v e rd fz ∨ (∃ g bb n x' g' l zs i n' cs b', Builtin.append = .append ∧ [s, x] = [.gs g bb n, x'] ∧ hlive H F bb = some (.tarr g' l) ∧ dataOf H F id g' x' = some zs ∧ (∃ rd0, r = .ok v [(i, some (.arr n' cs)), (b', none)] rd0 fz ∧ rd = rd0 ++ zs.2) ∧ e = [(i, some (.tarr g' (l ++ zs.1))), (b', none)]) ∨
          ∃ s' g xs v0 e0, Builtin.append = .append ∧ [s, x] = [s', .tl g xs] ∧ (s' = .nils ∨ s' = .emp) ∧ r = .ok v0 e0 rd fz ∧ v = .gs g id xs.length ∧ e = [(id, some (.tarr g xs))] := by
        intro hs h
        unfold tellNil at h
        split at h
        · split at h
          · simp only [Res.ok.injEq] at h
            obtain ⟨rfl, rfl, rfl, rfl⟩ := h
            exact .inr (.inr ⟨_, _, _, _, _, rfl, rfl, hs, rfl, rfl, rfl⟩)
          · exact .inl h
        · exact .inl h
      unfold tellApp at h
      split at h
      · exact nl (.inl rfl) h
      · exact nl (.inr rfl) h
      · rename_i g bb n
        split at h
        · rename_i g' l hb
          have raw : (bif nested H x then .no else r) = .ok v e rd fz → r = .ok v e rd fz := fun h => by
            cases hn : nested H x with
            | true => rw [hn, cond_true] at h; cases h
            | false => rw [hn, cond_false] at h; exact h
          split at h
          · rename_i zs hz
            split at h
            · rename_i q hq
              subst h
              unfold tellRow at hq
              split at hq
              · rename_i v0 i n' cs b' rd0 fz0
                simp only [Option.some.injEq, Res.ok.injEq] at hq
                obtain ⟨rfl, rfl, rfl, rfl⟩ := hq
                exact .inr (.inl ⟨g, bb, n, x, g', l, zs, _, _, _, _, rfl, rfl, hb, hz, ⟨_, rfl, rfl⟩, rfl⟩)
              · cases hq
            · exact .inl (raw h)
          · exact .inl (raw h)
        · exact .inl h
      · exact .inl h
    · exact .inl h

omit [Syms] in
theorem tellB_notAll {tell : Bool} {id : Nat} {H : Heap} {F : List Nat} {b : Builtin} {args : List AV} {r : Res} {v : AV} {H' : Heap} {F' : List Nat} {nx : Nat} (h : tellB tell id H F b args r = .all v H' F' nx) : r = .all v H' F' nx := by
  unfold tellB at h
  cases tell with
  | false => exact h
  | true =>
    rw [cond_true] at h
    split at h
    · have nl : ∀ x, tellNil id x r = .all v H' F' nx → r = .all v H' F' nx := fun x h => by
        unfold tellNil at h
        split at h
        · split at h
          · cases h
          · exact h
        · exact h
      unfold tellApp at h
      split at h
      · exact nl _ h
      · exact nl _ h
      · split at h
        · have raw : ∀ x, (bif nested H x then .no else r) = .all v H' F' nx → r = .all v H' F' nx := fun x h => by
            cases hn : nested H x with
            | true => rw [hn, cond_true] at h; cases h
            | false => rw [hn, cond_false] at h; exact h
          split at h
          · split at h
            · rename_i q hq
              subst h
              unfold tellRow at hq
              split at hq
              · cases hq
              · cases hq
            · exact raw _ h
          · exact raw _ h
        · exact h
      · exact h
    · exact h

omit [Syms] in
theorem okB_set {X : Nat → Prop} {m : Map} {H : Heap} {F : List Nat} {b : Nat} {o o1 : AObj} (hb : hget H b = some o) {β : Nat} (h : okB X m H F β) (hf1 : Flat o1 := by first | exact flat_cells _ | exact flat_arr _ _ | exact flat_tarr _ _ | exact flat_map _ | assumption) : okB X m (hset H b o1) F β := by
  refine ⟨h.1, fun q p L hq hf hm => ?_⟩
  rw [hget_hset] at hq
  split at hq
  · rename_i e; subst e; cases hq; exact fun hfp => h.2 b o L hb hf hm (.inl (hf1.fp hfp))
  · exact h.2 q p L hq hf hm

/-- An object told anew. -/
theorem SR.retell {c : Ctx} {m : Map} {H : Heap} {F : List Nat} {w : World} (hs : SR c m H F w) {b : Nat} {o o1 : AObj} (hb : hget H b = some o) (h : ∀ L, m b = some L → ObjR (okB c.X m H F) w.heap m L o1) (hv : Void o → Void o1) (hf1 : Flat o1 := by first | exact flat_cells _ | exact flat_arr _ _ | exact flat_tarr _ _ | exact flat_map _ | assumption) : SR c m (hset H b o1) F w := by
  have hkk : ∀ β C e z, okB c.X m H F β → w.heap[β]? = some (.cells C e z) → okB c.X m (hset H b o1) F β ∧ w.heap[β]? = some (.cells C e z) := fun β C e z h1 h2 => ⟨okB_set hb h1, h2⟩
  have dom : ∀ q p, hget (hset H b o1) q = some p → ∃ p', hget H q = some p' ∧ ∀ L β, fp p L β → fp p' L β := fun q p hq => by
    rw [hget_hset] at hq
    split at hq
    · rename_i e; subst e; cases hq; exact ⟨o, hb, fun L β h => .inl (hf1.fp h)⟩
    · exact ⟨p, hq, fun L β h => h⟩
  refine ⟨hs.xlt, fun q p hq => ?_, fun q1 p1 q2 p2 L1 L2 β h1 h2 h3 h4 h5 h6 => ?_, fun q p L β h1 h2 h3 => ?_, fun q p L β h1 h2 h3 => ?_, hs.keep⟩
  · rw [hget_hset] at hq
    split at hq
    · rename_i e
      subst e
      cases hq
      rcases hs.all b o hb with ⟨L, h1, _⟩ | ⟨h1, h2⟩
      · exact .inl ⟨L, h1, ObjR.mono (h L h1) hkk (MLe.refl m) (fun _ _ => rfl)⟩
      · exact .inr ⟨h1, hv h2⟩
    · rcases hs.all q p hq with ⟨L, h1, h2⟩ | h
      · exact .inl ⟨L, h1, ObjR.mono h2 hkk (MLe.refl m) (fun _ _ => rfl)⟩
      · exact .inr h
  · obtain ⟨p1', g1, g1'⟩ := dom q1 p1 h1
    obtain ⟨p2', g2, g2'⟩ := dom q2 p2 h2
    exact hs.injf q1 p1' q2 p2' L1 L2 β g1 g2 h3 h4 (g1' L1 β h5) (g2' L2 β h6)
  · obtain ⟨p', g, g'⟩ := dom q p h1
    exact hs.noxf q p' L β g h2 (g' L β h3)
  · obtain ⟨p', g, g'⟩ := dom q p h1
    exact hs.ownf q p' L β g h2 (g' L β h3)

/-- A row whose last elements hold rows that are written no more: told as data. -/
theorem Done.nested {c : Ctx} {m : Map} {H : Heap} {F : List Nat} {w : World} {i b' : Nat} {v : AV} {g : GT} {l zs : List g.T} {ys p : List AV} {is fz : List Nat} {cv : Value} {m' : Map} {w' : World}
    (hd : Done c m H F w i v [(i, some (.arr g.size (encs g l ++ ys))), (b', none)] fz cv m' w') (hne : b' ≠ i) (hbF : b' ∉ F) (hp : resolveAll true H ys = some (p, is)) (hF : ∀ b ∈ is, b ∈ F ∧ b ≠ i) (hrow : DRow g p zs) :
    Done c m H F w i v [(i, some (.tarr g (l ++ zs))), (b', none)] fz cv m' w' := by
  have hsr := hd.sr
  have hH : ∀ b ∈ is, hget (happ H [(i, some (.arr g.size (encs g l ++ ys))), (b', none)]) b = hget H b := fun b hb => by
    obtain ⟨h1, h2⟩ := hF b hb
    show hget (hdel (hset H i _) b') b = _
    rw [hget_hdel, if_neg (fun e => hbF (by rw [e]; exact h1)), hget_hset, if_neg (fun e => h2 e.symm)]
  have hi : hget (happ H [(i, some (.arr g.size (encs g l ++ ys))), (b', none)]) i = some (.arr g.size (encs g l ++ ys)) := by
    show hget (hdel (hset H i _) b') i = _
    rw [hget_hdel, if_neg hne, hget_hset, if_pos rfl]
  generalize hH1 : happ H [(i, some (.arr g.size (encs g l ++ ys))), (b', none)] = H1 at *
  have hra := resAll_of hp
  have hlp : p.length = ys.length := (resAll_some hra).1
  have hlz : p.length = zs.length := hrow.length
  have hobj : ∀ L, m' i = some L → ObjR (okB c.X m' H1 (fz ++ F)) w'.heap m' L (.tarr g (l ++ zs)) := fun L hL => by
    obtain ⟨j1, j2, j3, j4, C, e, z, j5, j6, j7, j8, j9⟩ := hsr.objm hi hL
    rw [flat_append] at j9
    have jl : CR (okB c.X m' H1 (fz ++ F)) w'.heap m' (flat (encs g l)) C L.off := fun j x hx => j9 j x (by rw [List.getElem?_append_left (List.getElem?_eq_some_iff.1 hx).1]; exact hx)
    have jr : CR (okB c.X m' H1 (fz ++ F)) w'.heap m' (flat ys) C (L.off + (flat (encs g l)).length) := fun j x hx => by
      obtain ⟨u, h1, h2⟩ := j9 ((flat (encs g l)).length + j) x (by rw [List.getElem?_append_right (by omega), Nat.add_sub_cancel_left]; exact hx)
      exact ⟨u, by rw [← h1]; congr 1; omega, h2⟩
    have ihs : ∀ d', d' ≤ DEEP → ∀ a y js u, resolve true H d' a = some (y, js) → (∀ b ∈ js, b ∈ is) → VR (okB c.X m' H1 (fz ++ F)) w'.heap m' a u → VR (okB c.X m' H1 (fz ++ F)) w'.heap noMap y u := fun d' _ a y js u hr hj hv =>
      resolve_vrI (I := fun b => b ∈ is) (fun β h => h) (fun b o L hb h1 h2 => hsr.objm (by rw [hH b hb]; exact h1) h2) (fun b o L β hb hgo hm hfp => by
          refine ⟨hsr.noxf b o L β (by rw [hH b hb]; exact hgo) hm hfp, fun q p' L' h3 h4 h5 e => h4 ?_⟩
          have := hsr.injf q p' b o L' L β h3 (by rw [hH b hb]; exact hgo) h5 hm e hfp
          rw [this]; exact List.mem_append_right _ (hF b hb).1) d' a y js u hr hj hv
    obtain ⟨q1, q2⟩ := resAll_flat (I := fun b => b ∈ is) ihs hra (fun b hb => hb) (fun x hx => j4 x (List.mem_append_right _ hx)) jr
    have hcat : CR (okB c.X m' H1 (fz ++ F)) w'.heap m' (flat (encs g l ++ p)) C L.off := fun j x hx => by
      rw [flat_append] at hx
      rcases Nat.lt_or_ge j (flat (encs g l)).length with hj | hj
      · rw [List.getElem?_append_left hj] at hx; exact jl j x hx
      · rw [List.getElem?_append_right hj] at hx
        obtain ⟨u, h1, h2⟩ := q2 _ x hx
        exact ⟨u, by rw [← h1]; congr 1; omega, h2.mono (fun β C e z h1 h2 => ⟨h1, h2⟩) (fun b L hb => by cases hb)⟩
    have hd2 := (DRow.encs g l).append hrow
    refine ⟨j1, j2, ?_, encs_size g _, C, e, z, j5, j6, j7, ?_, hcat.le hd2.flat⟩
    · rw [j3]; simp [encs_length]; omega
    · have : (encs g (l ++ zs)).length = (encs g l ++ ys).length := by simp [encs_length]; omega
      rw [this]; exact j8
  have hnew := hsr.retell (o1 := .tarr g (l ++ zs)) hi hobj (fun hv => by
    rcases hv with ⟨t, hv⟩ | ⟨t, hv⟩ | ⟨t, hv⟩
    · cases hv
    rotate_left
    · cases hv
    · injection hv with _ hv
      obtain ⟨h1, h2⟩ := List.append_eq_nil_iff.1 hv
      have e1 : l = [] := List.length_eq_zero_iff.1 (by rw [← encs_length g, h1]; rfl)
      have e2 : zs = [] := List.length_eq_zero_iff.1 (by rw [← hlz, hlp, h2]; rfl)
      rw [e1, e2]; exact .inl ⟨g, rfl⟩)
  have hle : HLe (hset H1 i (.tarr g (l ++ zs))) (happ H [(i, some (.tarr g (l ++ zs))), (b', none)]) := fun q => by
    have : hget (hset H1 i (.tarr g (l ++ zs))) q = hget (happ H [(i, some (.tarr g (l ++ zs))), (b', none)]) q := by
      show _ = hget (hdel (hset H i _) b') q
      rw [hget_hset, hget_hdel, hget_hset, ← hH1]
      show (if i = q then _ else hget (hdel (hset H i _) b') q) = _
      rw [hget_hdel, hget_hset]
      by_cases e : i = q
      · subst e; rw [if_pos rfl, if_neg hne, if_pos rfl]
      · simp [e]
    rw [this]; exact HLe.refl _ q
  have hkk : ∀ β C e z, okB c.X m' H1 (fz ++ F) β → w'.heap[β]? = some (.cells C e z) → okB c.X m' (happ H [(i, some (.tarr g (l ++ zs))), (b', none)]) (fz ++ F) β ∧ w'.heap[β]? = some (.cells C e z) := fun β C e z h1 h2 => ⟨okB_le hle (okB_set hi h1), h2⟩
  refine ⟨⟨hd.ext.mm, fun β C e z ho hh => ?_⟩, hnew.le hle, ?_, hd.dom⟩
  · obtain ⟨h1, h2⟩ := hd.ext.kk β C e z ho hh
    rw [hH1] at h1
    exact hkk β C e z h1 h2
  · have hv := hd.vr
    rw [hH1] at hv
    exact hv.mono hkk (MLe.refl _)

omit [Syms] in
theorem hlive_not {H : Heap} {F : List Nat} {b : Nat} {o : AObj} (h : hlive H F b = some o) : isIn b F = false := by
  unfold hlive at h
  cases hb : isIn b F with
  | false => rfl
  | true => rw [hb, cond_true] at h; cases h

/-- Elements told as data: as they are, or taken whole. -/
def Told (H : Heap) (F : List Nat) (id : Nat) (g : GT) (ys : List AV) (zs : List g.T × List Nat) : Prop :=
  (DRow g ys zs.1 ∧ zs.2 = []) ∨ ∃ p, resolveAll true H ys = some (p, zs.2) ∧ (∀ b ∈ zs.2, b ∈ F ∧ b ≠ id) ∧ DRow g p zs.1

theorem dataOf_row {T : Tabs} {H : Heap} {F : List Nat} {id : Nat} {g : GT} {x z : AV} {xt : TypeId} {ys : List AV} {zs : List g.T × List Nat} (h : dataOf H F id g x = some zs) (ha : appended T H z xt x = some ys) : Told H F id g ys zs := by
  have el : elems H x = some ys := by
    unfold appended at ha
    split at ha
    · split at ha
      · simp [dataOf, elems] at h
      · cases ha
    · exact ha
    · exact ha
    · cases ha
  unfold dataOf at h
  split at h
  · rename_i g' xs
    split at h
    · rename_i zs' hz
      cases h
      obtain ⟨rfl, hl⟩ := listOf_tl hz
      simp only at hl
      subst hl
      have hys : ys = encs g' zs' := by simpa [elems] using el.symm
      rw [hys]
      exact .inl ⟨DRow.encs g' zs', rfl⟩
    · cases h
  · rw [el] at h
    simp only at h
    unfold rowData at h
    cases ho : ys.any ownV with
    | false =>
      rw [ho, cond_false] at h
      split at h
      · rename_i zs' hz
        cases h
        exact .inl ⟨decAll_row (dec_dec g) hz, rfl⟩
      · cases h
    | true =>
      rw [ho, cond_true] at h
      split at h
      · rename_i p hp
        cases hq : p.2.all (fun b => isIn b F && !(b.beq id)) with
        | false => rw [hq, cond_false] at h; cases h
        | true =>
          rw [hq, cond_true] at h
          split at h
          · rename_i zs' hz
            cases h
            refine .inr ⟨p.1, hp, fun b hb => ?_, decAll_row (dec_dec g) hz⟩
            have := List.all_eq_true.1 hq b hb
            simp only [Bool.and_eq_true, Bool.not_eq_true'] at this
            exact ⟨(isIn_iff b F).1 this.1, fun e => by rw [e, beq_same] at this; cases this.2⟩
          · cases h
      · cases h

/-- What an append leaves, its row told as data again. -/
theorem Done.tell {T : Tabs} {c : Ctx} {m : Map} {H : Heap} {F : List Nat} {w : World} {id : Nat} {ts : List TypeId} {b : Builtin} {args : List AV} {tell : Bool} {v : AV} {e : Eff} {rd fz : List Nat}
    (h : tellB tell id H F b args (abuiltin T H F id b ts args) = .ok v e rd fz) : (∃ v0 e0 rd0, abuiltin T H F id b ts args = .ok v0 e0 rd0 fz ∧ ∀ {cv : Value} {m' : Map} {w' : World}, Done c m H F w id v0 e0 fz cv m' w' → Done c m H F w id v e fz cv m' w') ∨
    ∃ s g v0, b = .append ∧ args = [s, .tl g []] ∧ (s = .nils ∨ s = .emp) ∧ aappend T H F id ts s (.tl g []) = .ok v0 [] rd fz ∧ v = .gs g id 0 ∧ e = [(id, some (.tarr g []))] := by
  rcases tellB_inv h with h | ⟨g, bb, n, x, g', l, zs, i, n', cs, b', rfl, rfl, hb, hz, ⟨rd0, hr, _⟩, rfl⟩ | ⟨s, g, xs, v0, e0, rfl, rfl, hs, hr, rfl, rfl⟩
  · exact .inl ⟨v, e, rd, h, fun h => h⟩
  · refine .inl ⟨_, _, rd0, hr, fun {cv m' w'} hd => ?_⟩
    have ha : aappend T H F id ts (.gs g bb n) x = .ok v [(i, some (.arr n' cs)), (b', none)] rd0 fz := hr
    have key : ∃ ys, n' = g'.size ∧ cs = encs g' l ++ ys ∧ Told H F id g' ys zs ∧ i = id ∧ b' = bb ∧ bb ≠ id := by
      unfold aappend at ha
      split at ha
      · split at ha
        · rename_i q hq
          split at ha
          · rename_i by_ ys hby hap
            cases hf : ys.all (fitsN q.2.1) with
            | false => rw [hf, cond_false] at ha; cases ha
            | true =>
              rw [hf, cond_true] at ha
              have hv : appendV H F id q.2.1 by_ (idOf (.gs g bb n) ++ idOf x) (.gs g bb n) ys = appendGs H F id q.2.1 by_ (idOf (.gs g bb n) ++ idOf x) ys g bb n := by cases ys <;> rfl
              rw [hv] at ha
              unfold appendGs at ha
              rw [hb] at ha
              simp only at ha
              revert ha
              cases hc : (_ && _) with
              | false => intro ha; rw [cond_false] at ha; cases ha
              | true =>
                intro ha
                rw [cond_true] at ha
                simp only [Bool.and_eq_true] at hc
                have hs := beq_eq' hc.1.1.2
                have hne : bb ≠ id := fun e => by have := hc.2; simp [e, beq_same] at this
                cases ys with
                | nil => simp at ha
                | cons y r =>
                  simp only [Res.ok.injEq, List.cons.injEq, Prod.mk.injEq, Option.some.injEq, AObj.arr.injEq] at ha
                  exact ⟨y :: r, by rw [hs]; exact ha.2.1.1.2.1.symm, ha.2.1.1.2.2.symm, dataOf_row hz hap, ha.2.1.1.1.symm, ha.2.1.2.1.1.symm, hne⟩
          · cases ha
        · cases ha
      · cases ha
    obtain ⟨ys, rfl, rfl, htold, rfl, rfl, hne⟩ := key
    rcases htold with ⟨hrow, hz2⟩ | ⟨p, hp, hF, hrow⟩
    · have hle : HLe (happ H [(i, some (.arr g'.size (encs g' l ++ ys))), (b', none)]) (happ H [(i, some (.tarr g' (l ++ zs.1))), (b', none)]) := ((HLe.refl H).set ((DRow.encs g' l).append hrow).obj i).del b'
      exact ⟨hd.ext.trans ⟨MLe.refl _, fun β C e z ho hh => ⟨okB_le hle ho, hh⟩⟩, hd.sr.le hle, hd.vr.mono (fun β C e z ho hh => ⟨okB_le hle ho, hh⟩) (MLe.refl _), hd.dom⟩
    · exact hd.nested hne ((isIn_false b' F).1 (hlive_not hb)) hp hF hrow
  · have ha : aappend T H F id ts s (.tl g xs) = .ok v0 e0 rd fz := hr
    have key : (xs = [] ∧ e0 = []) ∨ (xs ≠ [] ∧ v0 = .osl g.size id 0 xs.length ∧ e0 = [(id, some (.arr g.size (encs g xs)))]) := by
      unfold aappend at ha
      split at ha
      · split at ha
        · rename_i q hq
          split at ha
          · rename_i by_ ys hby hap
            have hys : ys = encs g xs := by
              unfold appended at hap
              split at hap
              · cases hap
              · simpa [elems] using hap.symm
              · simpa [elems] using hap.symm
              · cases hap
            subst hys
            cases hf : (encs g xs).all (fitsN q.2.1) with
            | false => rw [hf, cond_false] at ha; cases ha
            | true =>
              rw [hf, cond_true] at ha
              cases xs with
              | nil =>
                left
                refine ⟨rfl, ?_⟩
                rcases hs with rfl | rfl
                · simp only [encs, List.map_nil, appendV, Res.ok.injEq] at ha; exact ha.2.1.symm
                · simp only [encs, List.map_nil, appendV, Res.ok.injEq] at ha; exact ha.2.1.symm
              | cons x r =>
                right
                have hsz : q.2.1 = g.size := by
                  have h1 := List.all_eq_true.1 hf (enc g x) (by simp [encs])
                  simp only [fitsN, Bool.and_eq_true] at h1
                  rw [← beq_eq' h1.2, enc_size]
                have hl : (encs g (x :: r)).length = (x :: r).length := encs_length g _
                rcases hs with rfl | rfl
                · simp only [encs, List.map_cons, appendV] at ha
                  cases hrm : room ((enc g x :: List.map (enc g) r).length) by_ with
                  | false => rw [hrm, cond_false] at ha; cases ha
                  | true =>
                    rw [hrm, cond_true] at ha
                    simp only [newArr, Res.ok.injEq] at ha
                    refine ⟨by simp, ?_, ?_⟩
                    · rw [← ha.1, hsz]; simp
                    · rw [← ha.2.1, hsz]; rfl
                · simp only [encs, List.map_cons, appendV] at ha
                  cases hrm : room ((enc g x :: List.map (enc g) r).length) by_ with
                  | false => rw [hrm, cond_false] at ha; cases ha
                  | true =>
                    rw [hrm, cond_true] at ha
                    simp only [newArr, Res.ok.injEq] at ha
                    refine ⟨by simp, ?_, ?_⟩
                    · rw [← ha.1, hsz]; simp
                    · rw [← ha.2.1, hsz]; rfl
          · cases ha
        · cases ha
      · cases ha
    rcases key with ⟨rfl, rfl⟩ | ⟨_, rfl, rfl⟩
    · exact .inr ⟨s, g, v0, rfl, rfl, hs, ha, rfl, rfl⟩
    · refine .inl ⟨_, _, _, hr, fun {cv m' w'} hd => ?_⟩
      have hle : HLe (happ H [(id, some (.arr g.size (encs g xs)))]) (happ H [(id, some (.tarr g xs))]) := (HLe.refl H).set (DRow.encs g xs).obj id
      refine ⟨hd.ext.trans ⟨MLe.refl _, fun β C e z ho hh => ⟨okB_le hle ho, hh⟩⟩, hd.sr.le hle, ?_, hd.dom⟩
      have hv := hd.vr.mono (fun β C e z ho hh => ⟨okB_le hle ho, hh⟩) (MLe.refl _)
      obtain ⟨a', c', hv2, _⟩ := hv.osl_any
      subst hv2
      exact .gs hv

end Go.Proofs.Ytmkmjjodiicmlaa.VS

