/- A state cut down to what is looked at: what it tells. Conditions: none. -/
import Derived.Test.YtjihnbjdclobgaaVW5
namespace Go.Proofs.Ytjihnbjdclobgaa.VS
variable [Syms]

omit [Syms] in
theorem Fr.get_set_or (t : Fr) (k j : Nat) (a : AV) : (t.set k a).get j = t.get j ∨ (j = k ∧ (t.set k a).get j = a) := by
  cases h : t.has k with
  | false => rw [Fr.set_not t k a h]; exact .inl rfl
  | true =>
    rw [Fr.get_set t k j a h]
    by_cases e : j = k
    · rw [if_pos e]; exact .inr ⟨e, rfl⟩
    · rw [if_neg e]; exact .inl rfl

omit [Syms] in
theorem Fr.get_deads : ∀ (n k : Nat), (Fr.deads n).get k = und ∨ (Fr.deads n).get k = .dead
  | 0, k => .inl rfl
  | n + 1, k => by
    rw [Fr.deads, Fr.get_nd]
    split
    · exact .inr rfl
    · split
      · exact Fr.get_deads n _
      · exact Fr.get_deads n _

omit [Syms] in
theorem Fr.has_deads : ∀ (n k : Nat), k + 1 < 2 ^ n → (Fr.deads n).has k = true
  | 0, k, h => by simp at h
  | n + 1, k, h => by
    rw [Fr.deads, Fr.has]
    rw [Nat.pow_succ] at h
    split
    · rfl
    · split
      · exact Fr.has_deads n _ (by omega)
      · exact Fr.has_deads n _ (by omega)

omit [Syms] in
theorem Fr.get_deads_in : ∀ (n k : Nat), k + 1 < 2 ^ n → (Fr.deads n).get k = .dead
  | 0, k, h => by simp at h
  | n + 1, k, h => by
    rw [Fr.deads, Fr.get_nd]
    rw [Nat.pow_succ] at h
    split
    · rfl
    · split
      · exact Fr.get_deads_in n _ (by omega)
      · exact Fr.get_deads_in n _ (by omega)

omit [Syms] in
theorem frK_has : ∀ (ks : List Nat) (vs : List AV) (k : Nat), k < 1023 → (frK ks vs).has k = true
  | [], vs, k, h => Fr.has_deads 10 k (by omega)
  | k' :: ks, [], k, h => Fr.has_deads 10 k (by omega)
  | k' :: ks, v :: vs, k, h => by rw [frK, setK_eq, Fr.has_set]; exact frK_has ks vs k h

omit [Syms] in
theorem frK_get : ∀ (ks : List Nat) (vs : List AV) (j : Nat), (frK ks vs).get j = (Fr.deads 10).get j ∨ ∃ (i : Nat) (v : AV), ks[i]? = some j ∧ vs[i]? = some v ∧ (frK ks vs).get j = v
  | [], vs, j => .inl rfl
  | k' :: ks, [], j => .inl rfl
  | k' :: ks, v :: vs, j => by
    rw [frK, setK_eq]
    rcases Fr.get_set_or (frK ks vs) k' j v with h | ⟨rfl, h⟩
    · rw [h]
      rcases frK_get ks vs j with h1 | ⟨i, u, h1, h2, h3⟩
      · exact .inl h1
      · exact .inr ⟨i + 1, u, by simpa using h1, by simpa using h2, h3⟩
    · exact .inr ⟨0, v, rfl, rfl, h⟩

section
variable {ok : Nat → Prop} {h : Array Obj} {m m' : Map} {ρ : Nat → Option Nat}

/-- A value under other numbers. -/
theorem rnv_vr (hρ : ∀ b c, ρ b = some c → m' c = m b) : ∀ (d : Nat) (a : AV) (v : Value), VR ok h m a v → VR ok h m' (rnv ρ d a) v
  | 0, a, v, _ => .dead
  | d + 1, a, v, hv => by
    have all : ∀ {cs : List AV} {C : Array Value} {o : Nat}, CR ok h m cs C o → CR ok h m' (cs.map (rnv ρ d)) C o := by
      intro cs C o hc j x hx
      rw [List.getElem?_map] at hx
      cases hj : cs[j]? with
      | none => rw [hj] at hx; cases hx
      | some y =>
        rw [hj] at hx
        cases hx
        obtain ⟨u, hu, hr⟩ := hc j y hj
        exact ⟨u, hu, rnv_vr hρ d y u hr⟩
    cases a with
    | agg cs =>
      obtain ⟨us, rfl, h1, h2⟩ := hv.agg_inv
      exact .agg' (by simpa using h1) (all h2)
    | tup cs =>
      obtain ⟨us, rfl, h1, h2⟩ := hv.tup_inv
      exact .tup' (by simpa using h1) (all h2)
    | fn f cs =>
      obtain ⟨us, rfl, h1, h2⟩ := hv.fn_inv
      exact .fn' (by simpa using h1) (all h2)
    | ifc t a =>
      cases hv with
      | ifc hv => exact .ifc (rnv_vr hρ d a _ hv)
    | osl s b lo len =>
      rw [rnv]
      split
      · rename_i c hc
        have e := hρ b c hc
        cases hv with
        | oslE h1 h2 h3 h4 => exact .oslE (e.trans h1) h2 h3 h4
        | osl h1 h2 h3 h4 h5 h6 h7 h8 => exact .osl (e.trans h1) h2 h3 h4 h5 h6 h7 h8
      · exact .dead
    | ptr b o =>
      rw [rnv]
      split
      · rename_i c hc
        cases hv with
        | ptr h1 h2 h3 => exact .ptr ((hρ b c hc).trans h1) h2 h3
      · exact .dead
    | eptr b i o =>
      rw [rnv]
      split
      · rename_i c hc
        cases hv with
        | eptr h1 h2 h3 => exact .eptr ((hρ b c hc).trans h1) h2 h3
      · exact .dead
    | mp b =>
      rw [rnv]
      split
      · rename_i c hc
        cases hv with
        | mp h1 h2 => exact .mp ((hρ b c hc).trans h1) h2
      · exact .dead
    | dead => exact .dead
    | nils => cases hv; exact .nils
    | emp => cases hv; exact .emp
    | nev => cases hv; exact .nev
    | cptr x =>
      cases hv with
      | cptr g h1 h2 h3 h4 => exact .cptr g h1 h2 h3 h4
    | _ => exact leaf_vr rfl (fun _ h => h) hv

omit [Syms] in
theorem rnv_size (d : Nat) (a : AV) : (rnv ρ (d + 1) a).cells.length = a.cells.length := by
  cases a <;> rw [rnv] <;> first | rfl | (simp [AV.cells]; done) | (split <;> rfl) | skip

theorem rnv_cells (hρ : ∀ b c, ρ b = some c → m' c = m b) (d : Nat) {a : AV} {C : Array Value} {o : Nat} (hc : CR ok h m a.cells C o) : CR ok h m' (rnv ρ (d + 1) a).cells C o := by
  have one : a.cells = [a] → (rnv ρ (d + 1) a).cells = [rnv ρ (d + 1) a] → CR ok h m' (rnv ρ (d + 1) a).cells C o := by
    intro h1 h2
    rw [h2]
    intro j x hx
    cases j with
    | zero =>
      simp at hx; subst hx
      obtain ⟨v, hv, hr⟩ := hc 0 a (by rw [h1]; rfl)
      exact ⟨v, hv, rnv_vr hρ _ _ _ hr⟩
    | succ j => simp at hx
  cases a with
  | agg cs =>
    intro j x hx
    have hx : (cs.map (rnv ρ d))[j]? = some x := hx
    rw [List.getElem?_map] at hx
    cases hj : cs[j]? with
    | none => rw [hj] at hx; cases hx
    | some y =>
      rw [hj] at hx
      cases hx
      obtain ⟨u, hu, hr⟩ := hc j y hj
      exact ⟨u, hu, rnv_vr hρ d y u hr⟩
  | osl => exact one rfl (by rw [rnv]; split <;> rfl)
  | ptr => exact one rfl (by rw [rnv]; split <;> rfl)
  | eptr => exact one rfl (by rw [rnv]; split <;> rfl)
  | mp => exact one rfl (by rw [rnv]; split <;> rfl)
  | _ => exact one rfl rfl

theorem rnv_flat (hρ : ∀ b c, ρ b = some c → m' c = m b) (d : Nat) {s : Nat} : ∀ {xs : List AV} {C : Array Value} {o : Nat}, (∀ x ∈ xs, x.cells.length = s) → CR ok h m (flat xs) C o → CR ok h m' (flat (xs.map (rnv ρ (d + 1)))) C o
  | [], C, o, _, _ => fun j x hx => by simp [flat] at hx
  | a :: xs, C, o, hs, hc => by
    rw [flat_cons] at hc
    rw [List.map_cons, flat_cons]
    have ha := hs a (by simp)
    have hl := rnv_size (ρ := ρ) d a
    have h1 := rnv_cells hρ d (a := a) (C := C) (o := o) fun j x hx => hc j x (by rw [List.getElem?_append_left (List.getElem?_eq_some_iff.1 hx).1]; exact hx)
    have h2 := rnv_flat hρ d (xs := xs) (fun x hx => hs x (List.mem_cons_of_mem _ hx)) (C := C) (o := o + s) fun j x hx => by
      obtain ⟨v, hv, hr⟩ := hc (s + j) x (by rw [List.getElem?_append_right (by omega), ha, Nat.add_sub_cancel_left]; exact hx)
      exact ⟨v, by rw [Nat.add_assoc]; exact hv, hr⟩
    intro j x hx
    rcases Nat.lt_or_ge j (rnv ρ (d + 1) a).cells.length with hj | hj
    · rw [List.getElem?_append_left hj] at hx; exact h1 j x hx
    · rw [List.getElem?_append_right hj] at hx
      obtain ⟨v, hv, hr⟩ := h2 _ x hx
      exact ⟨v, by rw [← hv]; congr 1; omega, hr⟩

theorem rno_obj (hρ : ∀ b c, ρ b = some c → m' c = m b) {L : Loc} {o : AObj} {hint : Option GT} (ho : ObjR ok h m L o) : ObjR ok h m' L (rno ρ hint o) := by
  have arr : ∀ {s : Nat} {xs : List AV}, ArrR ok h m L s xs → ArrR ok h m' L s (xs.map (rnv ρ DEEP)) := by
    intro s xs ⟨h1, h2, h3, h4, C, e, z, h5, h6, h7, h8, h9⟩
    refine ⟨h1, h2, by simpa using h3, fun x hx => ?_, C, e, z, h5, h6, h7, by simpa using h8, rnv_flat hρ 11 h4 h9⟩
    obtain ⟨y, hy, rfl⟩ := List.mem_map.1 hx
    rw [show DEEP = 11 + 1 from rfl, rnv_size]; exact h4 y hy
  have tarr : ∀ {t : GT} {xs : List t.T}, ArrR ok h m L t.size (encs t xs) → ArrR ok h m' L t.size (encs t xs) := by
    intro t xs ⟨h1, h2, h3, h4, C, e, z, h5, h6, h7, h8, h9⟩
    exact ⟨h1, h2, h3, h4, C, e, z, h5, h6, h7, h8, encs_flat_vr (fun _ h => h) h9⟩
  cases o with
  | cells cs =>
    obtain ⟨h0, C, e, z, h1, h2, h3, h4⟩ := ho
    refine ⟨h0, C, e, z, h1, by simpa using h2, h3, fun j x hx => ?_⟩
    rw [List.getElem?_map] at hx
    cases hj : cs[j]? with
    | none => rw [hj] at hx; cases hx
    | some y =>
      rw [hj] at hx
      cases hx
      obtain ⟨u, hu, hr⟩ := h4 j y hj
      exact ⟨u, hu, rnv_vr hρ _ y u hr⟩
  | arr s xs =>
    cases hint with
    | none => exact arr ho
    | some g =>
      show ObjR ok h m' L (bif s.beq g.size then (match decAll (dec g) xs with
      | some l => .tarr g l
      | none => .arr s (xs.map (rnv ρ DEEP))) else .arr s (xs.map (rnv ρ DEEP)))
      cases hs : s.beq g.size with
      | false => exact arr ho
      | true =>
        rw [cond_true]
        split
        · rename_i l hl
          have := beq_eq' hs
          subst this
          exact tarr ((decAll_row (dec_dec g) hl).obj _ _ _ _ ho)
        · exact arr ho
  | tarr t xs => exact tarr ho
  | map es =>
    obtain ⟨ents, k, h1, h2, h3⟩ := ho
    refine ⟨ents, k, h1, by simpa using h2, fun j p hp => ?_⟩
    rw [List.getElem?_map] at hp
    cases hj : es[j]? with
    | none => rw [hj] at hp; cases hp
    | some q =>
      rw [hj] at hp
      cases hp
      obtain ⟨u, hu, ha, hv⟩ := h3 j q hj
      exact ⟨u, hu, rnv_vr hρ _ _ _ ha, rnv_vr hρ _ _ _ hv⟩

omit [Syms] in
theorem onceR_nodup : ∀ l : List Nat, (onceR l).Nodup
  | [] => List.nodup_nil
  | a :: r => by
    rw [onceR, List.nodup_cons]
    refine ⟨fun hm => ?_, (onceR_nodup r).filter _⟩
    have := (List.mem_filter.1 hm).2
    rw [beq_same] at this; cases this

omit [Syms] in
theorem rnHeap_get {live : List (Nat × HK)} {s : St} : ∀ (l : List Nat) (c0 c : Nat) (o : AObj), hget (rnHeap live s ρ l c0) c = some o →
    ∃ b p, c0 ≤ c ∧ l[c - c0]? = some b ∧ hget s.H b = some p ∧ o = rno ρ (hintOf s.fr b live) p
  | [], c0, c, o, h => by simp [rnHeap, hget] at h
  | b :: r, c0, c, o, h => by
    have next : hget (rnHeap live s ρ r (c0 + 1)) c = some o → ∃ b' p, c0 ≤ c ∧ (b :: r)[c - c0]? = some b' ∧ hget s.H b' = some p ∧ o = rno ρ (hintOf s.fr b' live) p := fun h => by
      obtain ⟨b', p, h1, h2, h3, h4⟩ := rnHeap_get r (c0 + 1) c o h
      refine ⟨b', p, by omega, ?_, h3, h4⟩
      rw [show c - c0 = (c - (c0 + 1)) + 1 by omega, List.getElem?_cons_succ]; exact h2
    rw [rnHeap] at h
    split at h
    · rename_i p hp
      rw [hget_cons] at h
      split at h
      · rename_i e
        subst e
        cases h
        exact ⟨b, p, Nat.le_refl _, by simp, hp, rfl⟩
      · exact next h
    · exact next h

/-- A row that is looked at as data alone. -/
theorem treeOf_vr {c : Ctx} {H : Heap} {F : List Nat} {w : World} (hs : SR c m H F w) {ids : List Nat} {g : GT} {ok' : Nat → Prop} (hok : ∀ β, okB c.X m H F β → ok' β) (hids : ∀ b o L, hget H b = some o → m b = some L → b ∉ ids → ok' L.blk) {a : AV} {v : Value}
    (hv : VR (okB c.X m H F) w.heap m a v) : VR ok' w.heap m' (treeOf g H ids a) v := by
  have tl : ∀ {l : List g.T}, VR (okB c.X m H F) w.heap m (.tl g l) v → VR ok' w.heap m' (.tl g l) v := fun h => leaf_vr rfl hok h
  have lst : VR ok' w.heap m' (match listOf g (dec g) a with
    | some l => .tl g l
    | none => .dead) v := by
    split
    · rename_i l hl
      exact tl (listOf_le (dec_dec g) hl _ _ _ _ hv)
    · exact .dead
  cases a with
  | osl s b lo len =>
    rw [treeOf]
    cases hi : isIn b ids with
    | true => exact .dead
    | false =>
      rw [cond_false]
      have hni := (isIn_false b ids).1 hi
      have noM : ∀ {xs : List AV} {w0 : Value}, VR ok' w.heap noMap (.sl xs) w0 → VR ok' w.heap m' (.sl xs) w0 := fun h => sl_vr (fun _ h => h) h
      split
      · rename_i g' xs hb
        split
        · rename_i l hl
          obtain ⟨e, rfl⟩ := listOf_tl hl
          subst e
          obtain ⟨L, hm, j1, j2, j3, j4, C, e, z, j5, j6, j7, j8, j9⟩ := hs.obj b _ hb
          by_cases hle : lo + len ≤ (encs g' xs).length
          · have := osl_tree (ok' := ok') hm j1 j2 j3 j5 j4 (encs_flat_vr hok j9) (hids b _ L hb hm hni) hle hv
            refine .tl ?_
            have e1 : encs g' ((xs.drop lo).take len) = ((encs g' xs).drop lo).take len := by simp [encs, List.map_take, List.map_drop]
            show VR ok' w.heap m' (.sl (encs g' ((xs.drop lo).take len))) v
            rw [e1]; exact noM this
          · obtain ⟨L', q1, q2, q3, q4⟩ := hv.osl_inv
            rw [hm] at q1; cases q1
            rcases q4 with ⟨q5, q6, a, rfl⟩ | ⟨cp, _, q5, q6, q7⟩
            · subst q5; rw [List.take_zero]; exact .tl (.slE nofun)
            · omega
        · exact .dead
      · rename_i n xs hb
        split
        · rename_i l hl
          cases hn : n.beq g.size with
          | false => exact .dead
          | true =>
            rw [cond_true]
            have hn := beq_eq' hn
            subst hn
            have hrow := decAll_row (dec_dec g) hl
            obtain ⟨L, hm, k1⟩ := hs.obj b _ hb
            obtain ⟨j1, j2, j3, j4, C, e, z, j5, j6, j7, j8, j9⟩ := hrow.obj _ _ _ _ k1
            by_cases hle : lo + len ≤ (encs g l).length
            · have := osl_tree (ok' := ok') hm j1 j2 j3 j5 j4 (encs_flat_vr hok j9) (hids b _ L hb hm hni) hle hv
              refine .tl ?_
              have e1 : encs g ((l.drop lo).take len) = ((encs g l).drop lo).take len := by simp [encs, List.map_take, List.map_drop]
              rw [e1]; exact noM this
            · obtain ⟨L', q1, q2, q3, q4⟩ := hv.osl_inv
              rw [hm] at q1; cases q1
              rcases q4 with ⟨q5, q6, a, rfl⟩ | ⟨cp, _, q5, q6, q7⟩
              · subst q5; rw [List.take_zero]; exact .tl (.slE nofun)
              · omega
        · exact .dead
      · exact .dead
  | _ => exact lst

end

/-- A state cut down. -/
theorem canon_ent {n : Nat} (hn : n ≤ 1023) (live : List (Nat × HK)) (s : St) (hlen : (canonIds live s).length ≤ MANY) : SEnt n s (cutSt (live.map (·.1)) (canonVals live s) (canonHeap live s)) := by
  intro c wE m a w hg
  have hs := hg.here.sr
  generalize hids : canonIds live s = ids at *
  have hnd : ids.Nodup := by rw [← hids]; exact (onceR_nodup _).filter _
  have hnF : ∀ b ∈ ids, b ∉ s.F := by
    intro b hb
    rw [← hids] at hb
    have := (List.mem_filter.1 hb).2
    exact (isIn_false b s.F).1 (by simpa using this)
  let m' : Map := fun x => (ids[x]?).bind m
  have hρ : ∀ b x, placeIn 0 ids b = some x → m' x = m b := by
    intro b x hx
    obtain ⟨_, _, h3⟩ := placeIn_some hx
    show (ids[x]?).bind m = m b
    rw [Nat.sub_zero] at h3
    rw [h3]; rfl
  have hheap : canonHeap live s = rnHeap live s (placeIn 0 ids) ids 0 := by unfold canonHeap; rw [hids]
  have get : ∀ {x o}, hget (canonHeap live s) x = some o → ∃ b p, ids[x]? = some b ∧ hget s.H b = some p ∧ o = rno (placeIn 0 ids) (hintOf s.fr b live) p ∧ m' x = m b := by
    intro x o hx
    rw [hheap] at hx
    obtain ⟨b, p, _, h2, h3, h4⟩ := rnHeap_get _ _ _ _ hx
    rw [Nat.sub_zero] at h2
    exact ⟨b, p, h2, h3, h4, by show (ids[x]?).bind m = m b; rw [h2]; rfl⟩
  have hok : ∀ β, okB c.X m s.H s.F β → okB c.X m' (canonHeap live s) [] β := by
    intro β ho
    refine ⟨ho.1, fun x o L hx _ hm => ?_⟩
    obtain ⟨b, p, h1, h2, _, h4⟩ := get hx
    rw [h4] at hm
    exact ho.2 b p L h2 (hnF b (List.mem_of_getElem? h1)) hm
  have hidsOk : ∀ b o L, hget s.H b = some o → m b = some L → b ∉ ids → okB c.X m' (canonHeap live s) [] L.blk := by
    intro b o L hb hm hni
    refine ⟨hs.nox b o L hb hm, fun x o' L' hx _ hm' e => ?_⟩
    obtain ⟨b', p, h1, h2, _, h4⟩ := get hx
    rw [h4] at hm'
    have := hs.inj b' p b o L' L h2 hb hm' hm e
    subst this
    exact hni (List.mem_of_getElem? h1)
  refine ⟨m', ⟨⟨?_, ?_, fun k hk => frK_has _ _ k (by omega), hg.here.sz, fun b hb => ?_⟩, fun β C e z h1 h2 => ?_⟩⟩
  · refine ⟨hs.xlt, fun x o hx => ?_, fun x1 o1 x2 o2 L1 L2 g1 g2 k1 k2 k3 => ?_, fun x o L hx hm => ?_, fun x o L hx hm => ?_, hs.keep⟩
    · obtain ⟨b, p, h1, h2, h3, h4⟩ := get hx
      obtain ⟨L, q1, q2⟩ := hs.obj b p h2
      refine ⟨L, by rw [h4]; exact q1, ?_⟩
      subst h3
      exact ObjR.mono (rno_obj (m' := m') hρ q2) (fun β C e z ho hh => ⟨hok β ho, hh⟩) (MLe.refl _) rfl
    · obtain ⟨b1, p1, h1, h2, _, h4⟩ := get g1
      obtain ⟨b2, p2, h5, h6, _, h8⟩ := get g2
      rw [h4] at k1
      rw [h8] at k2
      have := hs.inj b1 p1 b2 p2 L1 L2 h2 h6 k1 k2 k3
      subst this
      obtain ⟨i1, e1⟩ := List.getElem?_eq_some_iff.1 h1
      obtain ⟨i2, e2⟩ := List.getElem?_eq_some_iff.1 h5
      exact (List.getElem_inj hnd).1 (e1.trans e2.symm)
    · obtain ⟨b, p, h1, h2, _, h4⟩ := get hx
      rw [h4] at hm
      exact hs.nox b p L h2 hm
    · obtain ⟨b, p, h1, h2, _, h4⟩ := get hx
      rw [h4] at hm
      exact hs.own b p L h2 hm
  · intro j
    have hj := hg.here.fr j
    show VR (okB c.X m' (canonHeap live s) []) w.heap m' ((frK (live.map (·.1)) (canonVals live s)).get j) _
    rcases frK_get (live.map (·.1)) (canonVals live s) j with h1 | ⟨i, v, h1, h2, h3⟩
    · rw [h1]
      by_cases hj1 : j + 1 < 2 ^ 10
      · rw [Fr.get_deads_in 10 j hj1]; exact .dead
      · rcases Fr.get_deads 10 j with h | h
        · rw [h]
          have : a.tmps.getD j undef = undef := by
            rw [Array.getD_eq_getD_getElem?, Array.getElem?_eq_none (by have := hg.here.sz; omega)]; rfl
          rw [this]; exact und_vr
        · rw [h]; exact .dead
    · rw [h3]
      unfold canonVals at h2
      rw [hids] at h2
      simp only [List.getElem?_map] at h1 h2
      cases hp : live[i]? with
      | none => rw [hp] at h1; cases h1
      | some p =>
        rw [hp] at h1 h2
        cases h1
        cases h2
        have key : VR (okB c.X m' (canonHeap live s) []) w.heap m' (rnv (placeIn 0 ids) DEEP (getK s.fr p.1)) (a.tmps.getD p.1 undef) := by
          rw [getK_eq]
          exact (rnv_vr hρ DEEP _ _ hj).mono (fun β C e z ho hh => ⟨hok β ho, hh⟩) (MLe.refl _)
        unfold canonVal
        split
        · rw [getK_eq]
          exact treeOf_vr hs hok hidsOk hj
        · exact key
  · show (ids[b]?).bind m = none
    have hb : MANY ≤ b := hb
    rw [List.getElem?_eq_none (by omega)]; rfl
  · obtain ⟨k1, k2⟩ := hg.old β C e z h1 h2
    exact ⟨hok β k1, k2⟩

end Go.Proofs.Ytjihnbjdclobgaa.VS
