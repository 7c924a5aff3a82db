/- Maps, lengths, and what only passes values on: what each leaves, on both sides. Conditions: none. -/
import Derived.Test.YtopkeglpafdlfaaGreatVS12
import Derived.MapKept
namespace Go.Proofs.YtopkeglpafdlfaaGreat.VS
variable [Syms]

section
variable {P : Program} {T : Tabs} {c : Ctx} {m : Map} {H : Heap} {F : List Nat} {w : World}

omit [Syms] in
theorem mapT_some (hT : TyOK P T) {t : TypeId} {ke : TypeId × TypeId} (h : mapT T t = some ke) : P.underlying t = some (.map ke.1 ke.2) ∧ ((∃ k, kindOf T ke.1 = .int k) ∨ kindOf T ke.1 = .str) := by
  unfold mapT at h
  split at h
  · rename_i k e hk
    split at h
    · rename_i i hi; cases h; exact ⟨kind_map hT hk, .inl ⟨i, hi⟩⟩
    · rename_i hi; cases h; exact ⟨kind_map hT hk, .inr hi⟩
    · cases h
  · cases h

theorem VR.int_inv {ok : Nat → Prop} {h : Array Obj} {k : IntKind} {n : Int} {v : Value} (H : VR ok h m (.int k n) v) : v = .int k n := by cases H; rfl

/-- A key, on both sides. -/
inductive KeyR : TypeDesc → AV → Value → Prop
  | int (j k : IntKind) (n : Int) : KeyR (.int j) (.int k n) (.int k n)
  | str (l : List UInt8) (s : ByteArray) : s.data.toList = l → KeyR .string (.str l) (.string s)

theorem keyFits_some (hT : TyOK P T) {kt : TypeId} {k : AV} (h : keyFits (kindOf T kt) k = true) {ok : Nat → Prop} {vk : Value} (hk : VR ok w.heap m k vk) :
    ∃ d, P.underlying kt = some d ∧ KeyR d k vk := by
  generalize hK : kindOf T kt = K at h
  unfold keyFits at h
  split at h
  · cases hk; exact ⟨_, kind_int hT hK, .int _ _ _⟩
  · obtain ⟨s, rfl, hs⟩ := hk.str_inv
    exact ⟨_, kind_str hT hK, .str _ _ hs⟩
  · cases h

omit [Syms] in
theorem KeyR.check {d : TypeDesc} {k : AV} {vk : Value} (h : KeyR d k vk) {kt : TypeId} (hd : P.underlying kt = some d) (e : Bool) (n : Nat) : (Instr.checkKey e (n + 1) kt vk).run P w = .ok () w := by
  unfold Instr.checkKey
  cases h <;> simp [run_underlying hd]

omit [Syms] in
theorem bytes_same {a b : ByteArray} {x y : List UInt8} (ha : a.data.toList = x) (hb : b.data.toList = y) : (a == b) = decide (x = y) := by
  cases hd : decide (x = y) with
  | true =>
    have := of_decide_eq_true hd
    rw [MapKept.bytes_beq]
    have hl : a.data.toList = b.data.toList := by rw [ha, hb, this]
    cases a; cases b; simp only at hl ⊢
    rw [Array.toList_inj.1 hl]
  | false =>
    have := of_decide_eq_false hd
    cases hab : a == b with
    | false => rfl
    | true =>
      rw [MapKept.bytes_beq] at hab
      subst hab
      exact absurd (ha.symm.trans hb) this

theorem sim_akey {ok : Nat → Prop} {d : TypeDesc} {k : AV} {vk : Value} (hk : KeyR d k vk) : ∀ (es : List (AV × AV)) (ents : List MapEntry) (n : Nat) (r : Option (Nat × AV)), ents.length = es.length →
    (∀ (j : Nat) (p : AV × AV), es[j]? = some p → ∃ q : MapEntry, ents[j]? = some q ∧ VR ok w.heap m p.1 q.key ∧ VR ok w.heap m p.2 q.val) → akey es k n = some r →
    match r with
    | some q => ∃ (j : Nat) (e : MapEntry), q.1 = n + j ∧ ents[j]? = some e ∧ Instr.findNow d vk ents n = some (some (q.1, e.val)) ∧ VR ok w.heap m q.2 e.val ∧ KeyR d k e.key
    | none => Instr.findNow d vk ents n = some none
  | [], ents, n, r, hl, _, h => by
    have : ents = [] := List.length_eq_zero_iff.1 (by simpa using hl)
    subst this
    cases hk <;> (simp [akey] at h; subst h; rfl)
  | p :: es, [], _, _, hl, _, _ => by simp at hl
  | (a, v) :: es, e :: ents, n, r, hl, hv, h => by
    obtain ⟨q, hq, h1, h2⟩ := hv 0 (a, v) rfl
    simp at hq; subst hq
    have ih := fun (r : Option (Nat × AV)) (h' : akey es k (n + 1) = some r) => sim_akey hk es ents (n + 1) r (by simpa using hl) (fun j p hp => hv (j + 1) p hp) h'
    have step : ∀ r : Option (Nat × AV), akey es k (n + 1) = some r → Instr.findNow d vk (e :: ents) n = Instr.findNow d vk ents (n + 1) →
        match r with
        | some q => ∃ (j : Nat) (e' : MapEntry), q.1 = n + j ∧ (e :: ents)[j]? = some e' ∧ Instr.findNow d vk (e :: ents) n = some (some (q.1, e'.val)) ∧ VR ok w.heap m q.2 e'.val ∧ KeyR d k e'.key
        | none => Instr.findNow d vk (e :: ents) n = some none := by
      intro r hr he
      have := ih r hr
      rw [he]
      cases r with
      | none => exact this
      | some q =>
        obtain ⟨j, e', g1, g2, g3, g4, g5⟩ := this
        exact ⟨j + 1, e', by omega, by simpa using g2, g3, g4, g5⟩
    cases hk with
    | int i j b =>
      cases a <;> simp only [akey] at h <;> try (cases h; done)
      rename_i j' a'
      have h1 := h1.int_inv
      split at h
      · rename_i hj
        subst hj
        split at h
        · rename_i hab
          subst hab
          cases h
          exact ⟨0, e, by simp, rfl, by simp [Instr.findNow, Instr.sameNow, h1], h2, by rw [h1]; exact .int _ _ _⟩
        · rename_i hab
          exact step r h (by simp [Instr.findNow, Instr.sameNow, h1, beq_false_of_ne (Ne.symm hab)])
      · cases h
    | str l s hs =>
      cases a <;> simp only [akey] at h <;> try (cases h; done)
      rename_i a'
      obtain ⟨s', h1, hs'⟩ := h1.str_inv
      have hb := bytes_same hs hs'
      split at h
      · rename_i hab
        subst hab
        cases h
        exact ⟨0, e, by simp, rfl, by simp [Instr.findNow, Instr.sameNow, h1, hb], h2, by rw [h1]; exact .str _ _ hs'⟩
      · rename_i hab
        exact step r h (by simp [Instr.findNow, Instr.sameNow, h1, hb, Ne.symm hab])

theorem mapOf_some (hs : SR c m H F w) {x : AV} {es : List (AV × AV)} (h : mapOf H x = some es) {vx : Value} (hx : VR (okB c.X m H F) w.heap m x vx) :
    (es = [] ∧ vx = .map none) ∨ ∃ (r : Nat) (ents : Array MapEntry) (k : Nat), vx = .map (some r) ∧ w.heap[r]? = some (.map ents k) ∧ ents.size = es.length ∧
      ∀ (j : Nat) (p : AV × AV), es[j]? = some p → ∃ q : MapEntry, ents[j]? = some q ∧ VR (okB c.X m H F) w.heap m p.1 q.key ∧ VR (okB c.X m H F) w.heap m p.2 q.val := by
  unfold mapOf at h
  split at h
  · cases h; cases hx; exact .inl ⟨rfl, rfl⟩
  · rename_i b
    split at h
    · rename_i es' hb
      cases h
      obtain ⟨L, h1, ents, k, h2, h3, h4⟩ := hs.obj b _ hb
      cases hx with
      | mp g1 g2 =>
        rw [h1] at g1; cases g1; subst g2
        exact .inr ⟨_, ents, k, rfl, h2, h3, h4⟩
    · cases h
  · cases h

theorem sim_lookup (hT : TyOK P T) (hs : SR c m H F w) {t : TypeId} {x k v : AV} {ok : Bool} (h : alookup T H t x k ok = some v) {vx vk : Value} (hx : VR (okB c.X m H F) w.heap m x vx) (hk : VR (okB c.X m H F) w.heap m k vk) :
    ∃ cv, (Instr.lookup t vx vk ok).run P w = .ok cv w ∧ VR (okB c.X m H F) w.heap m v cv := by
  unfold alookup at h
  split at h
  · rename_i ke hke
    obtain ⟨hu, _⟩ := mapT_some hT hke
    split at h
    · rename_i z es hz hes
      obtain ⟨i, zv, hi, hzv, rfl⟩ := zeroOf_some hT hz
      cases hf : keyFits (kindOf T ke.1) k with
      | false => simp [hf] at h
      | true =>
        simp only [hf, cond_true] at h
        obtain ⟨d, hd, hkr⟩ := keyFits_some hT hf hk
        have fin : ∀ (ents : Array MapEntry), (∀ (e : Bool), (Instr.checkKey e 10000 ke.1 vk).run P w = .ok () w) →
            (vx = .map none ∧ ents = #[] ∨ ∃ r cl, vx = .map (some r) ∧ w.heap[r]? = some (.map ents cl)) → ents.size = es.length →
            (∀ (j : Nat) (p : AV × AV), es[j]? = some p → ∃ q : MapEntry, ents[j]? = some q ∧ VR (okB c.X m H F) w.heap m p.1 q.key ∧ VR (okB c.X m H F) w.heap m p.2 q.val) →
            ∃ cv, (Instr.lookup t vx vk ok).run P w = .ok cv w ∧ VR (okB c.X m H F) w.heap m v cv := by
          intro ents hck hvx hsz hent
          unfold found at h
          split at h
          · rename_i p hp
            cases h
            obtain ⟨j, e, g1, g2, g3, g4, _⟩ := sim_akey hkr es ents.toList 0 _ (by simpa using hsz) (fun j p hp => by simpa using hent j p hp) hp
            have hfk := MapKept.run_findKey (P := P) (w := w) hd g3
            refine ⟨if ok then .tuple #[e.val, .bool true] else e.val, ?_, ?_⟩
            · rcases hvx with ⟨rfl, rfl⟩ | ⟨r, cl, rfl, hr⟩
              · simp at g2
              · simp only [Instr.lookup, Sem.run_bind, run_underlying hu, Result.andThen_ok, MapKept.run_getObj_map hr, Sem.run_pure, hck, hfk]
            · cases ok
              · exact g4
              · exact .tup' rfl fun j x hx => by
                  match j with
                  | 0 => simp at hx; subst hx; exact ⟨_, rfl, g4⟩
                  | 1 => simp at hx; subst hx; exact ⟨_, rfl, .bool _⟩
                  | j + 2 => simp at hx
          · rename_i hp
            cases h
            have g3 := sim_akey hkr es ents.toList 0 _ (by simpa using hsz) (fun j p hp => by simpa using hent j p hp) hp
            have hfk := MapKept.run_findKey (P := P) (w := w) hd g3
            refine ⟨if ok then .tuple #[zv, .bool false] else zv, ?_, ?_⟩
            · rcases hvx with ⟨rfl, rfl⟩ | ⟨r, cl, rfl, hr⟩
              · simp only [Instr.lookup, Sem.run_bind, run_underlying hu, Result.andThen_ok, Sem.run_pure, hck, hfk, run_zeroValue hi hzv]
              · simp only [Instr.lookup, Sem.run_bind, run_underlying hu, Result.andThen_ok, MapKept.run_getObj_map hr, Sem.run_pure, hck, hfk, run_zeroValue hi hzv]
            · cases ok
              · exact ofV_vr _
              · exact .tup' rfl fun j x hx => by
                  match j with
                  | 0 => simp at hx; subst hx; exact ⟨_, rfl, ofV_vr _⟩
                  | 1 => simp at hx; subst hx; exact ⟨_, rfl, .bool _⟩
                  | j + 2 => simp at hx
          · cases h
        rcases mapOf_some hs hes hx with ⟨rfl, rfl⟩ | ⟨r, ents, cl, rfl, h1, h2, h3⟩
        · exact fin #[] (fun e => hkr.check hd e 9999) (.inl ⟨rfl, rfl⟩) rfl (fun j p hp => by simp at hp)
        · exact fin ents (fun e => hkr.check hd e 9999) (.inr ⟨r, cl, rfl, h1⟩) h2 h3
    · cases h
  · cases h

omit [Syms] in
theorem KeyR.uniq {d : TypeDesc} {k : AV} {a b : Value} (h : KeyR d k a) (g : KeyR d k b) : a = b := by
  cases h with
  | int i j n => cases g; rfl
  | str l s hs =>
    cases g with
    | str _ s' hs' =>
      have : s = s' := by
        cases s; cases s'
        have := hs.trans hs'.symm
        simp only [Array.toList_inj] at this
        rw [this]
      rw [this]

omit [Syms] in
theorem KeyR.stays {d : TypeDesc} {k : AV} {a : Value} (h : KeyR d k a) : (Instr.keyThatStays a a).run P w = .ok a w := by
  have hb : Instr.sameBits 10000 a a = true := by
    cases h with
    | int i j n => simp [Instr.sameBits]
    | str l s hs => simp only [Instr.sameBits]; rw [MapKept.bytes_beq]
  simp [Instr.keyThatStays, hb]

theorem KeyR.vr {d : TypeDesc} {k : AV} {a : Value} (h : KeyR d k a) {ok : Nat → Prop} {hp : Array Obj} : VR ok hp m k a := by
  cases h with
  | int i j n => exact .int _ _
  | str l s hs => exact .str _ _ hs

omit [Syms] in
theorem setObj_facts {r : Nat} {o o' : Obj} (hb : w.heap[r]? = some o) : Alike w { w with heap := w.heap.setIfInBounds r o' } ∧ ({ w with heap := w.heap.setIfInBounds r o' } : World).heap.size = w.heap.size ∧
    ({ w with heap := w.heap.setIfInBounds r o' } : World).heap[r]? = some o' ∧ ∀ β, β ≠ r → ({ w with heap := w.heap.setIfInBounds r o' } : World).heap[β]? = w.heap[β]? :=
  ⟨⟨rfl, rfl, rfl⟩, by simp, (MapKept.heap_set hb).1, (MapKept.heap_set hb).2⟩

theorem sim_mapUpdate (hT : TyOK P T) (hs : SR c m H F w) {id : Nat} {t : TypeId} {x k y : AV} {p : Nat × AObj} (h : amapUpdate T H F t x k y = some p)
    {vx vk vy : Value} (hx : VR (okB c.X m H F) w.heap m x vx) (hk : VR (okB c.X m H F) w.heap m k vk) (hy : VR (okB c.X m H F) w.heap m y vy) :
    ∃ w', (Instr.mapUpdate t vx vk vy).run P w = .ok () w' ∧ Done c m H F w id und [(p.1, some p.2)] [] undef m w' := by
  unfold amapUpdate at h
  split at h
  · rename_i ke b hke
    obtain ⟨hu, _⟩ := mapT_some hT hke
    split at h
    · rename_i es hb
      obtain ⟨hb, hbF⟩ := hlive_some hb
      cases hf : keyFits (kindOf T ke.1) k with
      | false => simp [hf] at h
      | true =>
        simp only [hf, cond_true] at h
        obtain ⟨d, hd, hkr⟩ := keyFits_some hT hf hk
        obtain ⟨L, hm, ents, cl, e1, e2, e3⟩ := hs.obj b _ hb
        cases hx with
        | mp g1 g2 =>
          rw [hm] at g1; cases g1; subst g2
          have run1 : ∀ {a : Option (Nat × Value)}, (Instr.findKey ke.1 vk ents.toList).run P w = .ok a w → ∀ w' (u : Unit),
              (match a with
                | some (i, _) => do
                  let key ← Instr.keyThatStays (((ents[i]?).map (·.key)).getD vk) vk
                  setObj L.blk (.map (ents.modify i fun e => { e with key, val := vy }) cl)
                | none => setObj L.blk (.map (ents.push { key := vk, val := vy, born := cl }) (cl + 1)) : Sem Unit).run P w = .ok u w' →
              (Instr.mapUpdate t (.map (some L.blk)) vk vy).run P w = .ok u w' := by
            intro a ha w' u hrun
            simp only [Instr.mapUpdate, Sem.run_bind, run_underlying hu, Result.andThen_ok, MapKept.run_getObj_map e1, hkr.check hd false 9999, ha]
            exact hrun
          split at h
          · rename_i q hq
            cases h
            obtain ⟨j, e, g1, g2, g3, g4, g5⟩ := sim_akey hkr es ents.toList 0 _ (by simpa using e2) (fun j p hp => by simpa using e3 j p hp) hq
            rw [Nat.zero_add] at g1
            subst g1
            rw [Array.getElem?_toList] at g2
            have hkey := g5.uniq hkr
            obtain ⟨al, asz, ab, ao⟩ := setObj_facts (o' := .map (ents.modify q.1 fun e => { e with key := vk, val := vy }) cl) e1
            obtain ⟨hx, hsr⟩ := hs.write hb hbF hm al asz (o' := .map (es.set q.1 (k, y))) ao
            refine ⟨_, run1 (MapKept.run_findKey (P := P) hd g3) _ () ?_, hx, hsr ⟨_, _, ab, by simpa using e2, fun j p hp => ?_⟩, .tup' rfl (fun j x hx => by simp at hx), fun _ h => .inl h⟩
            · simp only [g2, Option.map_some, Option.getD_some, hkey, Sem.run_bind, hkr.stays, Result.andThen_ok]
              exact MapKept.run_setObj_map _ e1
            · rw [List.getElem?_set] at hp
              split at hp
              · rename_i hj
                subst hj
                split at hp
                · cases hp
                  refine ⟨{ e with key := vk, val := vy }, ?_, hx.vr hk, hx.vr hy⟩
                  rw [Array.getElem?_modify, g2]; simp
                · cases hp
              · rename_i hj
                obtain ⟨q', h1, h2, h3⟩ := e3 j p hp
                exact ⟨q', by rw [Array.getElem?_modify, if_neg hj]; exact h1, hx.vr h2, hx.vr h3⟩
          · rename_i hq
            cases h
            have g3 := sim_akey hkr es ents.toList 0 _ (by simpa using e2) (fun j p hp => by simpa using e3 j p hp) hq
            obtain ⟨al, asz, ab, ao⟩ := setObj_facts (o' := .map (ents.push { key := vk, val := vy, born := cl }) (cl + 1)) e1
            obtain ⟨hx, hsr⟩ := hs.write hb hbF hm al asz (o' := .map (es ++ [(k, y)])) ao
            refine ⟨_, run1 (MapKept.run_findKey (P := P) hd g3) _ () (MapKept.run_setObj_map _ e1), hx, hsr ⟨_, _, ab, by simp [e2], fun j p hp => ?_⟩, .tup' rfl (fun j x hx => by simp at hx), fun _ h => .inl h⟩
            rcases Nat.lt_or_ge j es.length with hj | hj
            · rw [List.getElem?_append_left hj] at hp
              obtain ⟨q', h1, h2, h3⟩ := e3 j p hp
              exact ⟨q', by rw [Array.getElem?_push, if_neg (by omega)]; exact h1, hx.vr h2, hx.vr h3⟩
            · rw [List.getElem?_append_right hj] at hp
              have : j = es.length := by
                rcases Nat.lt_or_ge (j - es.length) 1 with h1 | h1
                · omega
                · rw [List.getElem?_eq_none (by simpa using h1)] at hp; cases hp
              subst this
              simp at hp; subst hp
              exact ⟨_, by rw [Array.getElem?_push, if_pos e2.symm], hx.vr hk, hx.vr hy⟩
          · cases h
    · cases h
  · cases h

theorem sim_makeMap (hs : SR c m H F w) {E : Env} {id : Nat} (hid : m id = none) {t : TypeId} {a : Option AV} {v : AV} {e : Eff} {rd fz : List Nat} (h : opMakeMap E id t a = .ok v e rd fz) {va : Option Value} (ha : a = none → va = none) :
    ∃ cv m' w', (Instr.makeMap t va).run P w = .ok cv w' ∧ Done c m H F w id v e fz cv m' w' := by
  unfold opMakeMap at h
  split at h
  · rw [ha rfl]
    split at h
    · cases h
      obtain ⟨f1, f2, f3, f4⟩ := alloc_facts w (.map #[] 0)
      obtain ⟨hx, hsr⟩ := hs.new hid f4 f1 f2 (L := ⟨w.heap.size, 0, 0, 0, 0⟩) rfl (o := .map [])
      exact ⟨_, _, _, rfl, hx, hsr ⟨#[], 0, f3, rfl, fun j p hp => by simp at hp⟩, .mp (upd_same _ _ _) rfl, dom_upd⟩
    · cases h
  · cases h

end
end Go.Proofs.YtopkeglpafdlfaaGreat.VS
