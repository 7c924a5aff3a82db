/- A library of an abstract machine, joined from 5 texts. Conditions: none. -/
import Derived.Test.YtmkmjjodiicmlaaVM12
import Derived.ReadAgain
import Derived.Deep.Slices
import Derived.ProofKit
import Derived.OpenShut
import Derived.ChangeReads
set_option linter.unusedVariables false
set_option linter.unusedSimpArgs false
set_option linter.unusedSectionVars false
/- Functions that work on their caller's own rows, for values that are not known: slices.Insert, slices.Delete. Conditions: none. -/
namespace Go.Proofs.Ytmkmjjodiicmlaa.VS

/-- A row of one's own, whole. -/
def rowK (H : Heap) (F : List Nat) (g : GT) (k : Nat → Nat → List g.T → Prop) : AV → Prop
  | .gs g1 b n => must (g1.size.beq g.size) (match hlive H F b with
    | some (.tarr g' l) => optC (fun l => n = l.length ∧ k b n l) (listOf g (dec g) (.tl g' l))
    | _ => False)
  | .osl m b lo n => must (m.beq g.size && lo.beq 0) (match hlive H F b with
    | some (.tarr g' l) => optC (fun l => n = l.length ∧ k b n l) (listOf g (dec g) (.tl g' l))
    | some (.arr m' xs) => must (m'.beq g.size) (decAllP g xs fun l => n = l.length ∧ k b n l)
    | _ => False)
  | _ => False

/-- What is put in: a row that was just laid. -/
def laidK (H : Heap) (g : GT) (k : Nat → List g.T → Prop) : AV → Prop
  | .osl m2 b2 lo2 n2 => must (m2.beq g.size && Nat.blt 0 n2) (match hget H b2 with
    | some (.arr m3 ys0) => must (m3.beq g.size && (lo2 + n2).ble ys0.length && ys0.all (fitsN g.size)) (decAllP g ((ys0.drop lo2).take n2) (k b2))
    | _ => False)
  | _ => False

def insRowK (by_ : Nat) (g : GT) (H : Heap) (F : List Nat) (id : Nat) (k : Kont) (i : Int) (b2 : Nat) (ys : List g.T) (s : AV) : Prop :=
  rowK H F g (fun b n l => must (!(b.beq b2) && !(b.beq id)) ((0 ≤ i ∧ i ≤ n ∧ roomP (l.length + ys.length) by_) ∧ k (.gs g id (n + ys.length)) [(id, some (.tarr g (l.take i.toNat ++ ys ++ l.drop i.toNat))), (b, none)] [] [])) s

def insNilK (by_ : Nat) (g : GT) (id : Nat) (k : Kont) (i : Int) (ys : List g.T) : Prop :=
  (i = 0 ∧ roomP ys.length by_) ∧ k (.gs g id ys.length) [(id, some (.tarr g ys))] [] []

def insSK (by_ : Nat) (g : GT) (H : Heap) (F : List Nat) (id : Nat) (k : Kont) (i : Int) (b2 : Nat) (ys : List g.T) (s : AV) : Prop :=
  match s with
  | .nils => insNilK by_ g id k i ys
  | .emp => insNilK by_ g id k i ys
  | s => insRowK by_ g H F id k i b2 ys s

/-- slices.Insert. -/
def insK (T : Tabs) (S : TypeId) (g : GT) (args : List AV) (H : Heap) (F : List Nat) (id : Nat) (k : Kont) : Prop :=
  match args with
  | [s, .int .i64 i, v] => optC (fun e => optC (fun by_ => must (e.2.1.beq g.size && Nat.blt 1 g.size) (laidK H g (fun b2 ys => insSK by_ g H F id k i b2 ys s) v)) (bytesOf T e.1)) (elemT T S)
  | _ => False

variable [Syms]
section
variable {P : Program} {T : Tabs} {c : Ctx} {m : Map} {H : Heap} {F : List Nat} {w : World}

omit [Syms] in
theorem aappend_eq {S : TypeId} {e : TypeId × Nat × AV} {by_ id : Nat} {s x : AV} {ps : List AV} (he : elemT T S = some e) (hby : bytesOf T e.1 = some by_) (hps : elems H x = some ps) (hf : ps.all (fitsN e.2.1) = true) :
    aappend T H F id [S, S] s x = appendV H F id e.2.1 by_ (idOf s ++ idOf x) s ps := by
  have hk : kindOf T S = .slice e.1 := by
    unfold elemT elemOf at he
    split at he
    · rename_i e0 h0
      split at h0
      · cases h0
        rename_i hk
        split at he
        · rename_i s' z' _ _
          cases hq : fitsN s' z' && Nat.blt 0 s' with
          | false => rw [hq, cond_false] at he; cases he
          | true => rw [hq, cond_true] at he; cases he; exact hk
        · cases he
      · cases h0
    · cases he
  unfold aappend
  simp only [he, hby, appended, hk, hps, hf, cond_true]

/-- From a call that was made over rows of trees. -/
theorem hook_fin {f : FuncId} {cargs : Array Value} {id : Nat} {k : Kont} {H1 : Heap} (hH : HLe H H1) {v1 v : AV} {e1 e : Eff} {nx : Nat} (hk : k v e [] []) (hv : VLe v1 v) (hx : HLe (happ H1 e1) (happ H e)) (hnx : nx ≤ id + STRIDE)
    (h : CallsTo P f cargs w fun cv w' => ∃ m', After c m H1 F w id v1 (happ H1 e1) F nx cv m' w') : CallsTo P f cargs w fun cv w' => ∃ v e rd fz m', k v e rd fz ∧ Done c m H F w id v e fz cv m' w' := by
  refine h.mono fun cv w' ⟨m', ha⟩ => ⟨v, e, [], [], m', hk, ?_, ?_, ?_, fun b hb => (ha.dom b hb).imp (fun h => h) fun h => ⟨h.1, Nat.lt_of_lt_of_le h.2 hnx⟩⟩
  · exact (Ext.trans ⟨MLe.refl m, fun β C e z ho hh => ⟨okB_le hH ho, hh⟩⟩ ha.ext).trans ⟨MLe.refl m', fun β C e z ho hh => ⟨okB_le hx ho, hh⟩⟩
  · exact ha.sr.le hx
  · exact (hv _ _ _ _ ha.vr).mono (fun β C e z ho hh => ⟨okB_le hx ho, hh⟩) (MLe.refl _)

omit [Syms] in
theorem gs_up [Syms] {g : GT} {b n : Nat} : VLe (.osl g.size b 0 n) (.gs g b n) := fun _ _ _ v hv => by
  cases hv with
  | oslE h1 h2 h3 h4 => exact .gs (.oslE h1 h2 h3 h4)
  | osl h1 h2 h3 h4 h5 h6 h7 h8 => exact .gs (.osl h1 h2 h3 h4 h5 h6 h7 h8)

omit [Syms] in
theorem insL_row [Syms] {g : GT} {ps qs : List AV} {l ys : List g.T} (h : DRow g ps l) (k : DRow g qs ys) (i : Nat) : DRow g (insL ps qs i) (l.take i ++ ys ++ l.drop i) := ((h.take i).append k).append (h.drop i)

theorem insK_ok (hT : TyOK P T) {f : FuncId} {S : TypeId} {g : GT} (hp : HOK1 P f (insH T S)) : ∀ args H F id k, insK T S g args H F id k → ∀ (c : Ctx) (m : Map) (w : World) (cargs : Array Value), SR c m H F w → CR (okB c.X m H F) w.heap m args cargs 0 → cargs.size = args.length →
    (∀ b, id ≤ b → b < id + STRIDE → m b = none) → CallsTo P f cargs w fun cv w' => ∃ v e rd fz m', k v e rd fz ∧ Done c m H F w id v e fz cv m' w' := by
  intro args H F id k h c m w cargs hs hc hsz hid
  have hid0 : m id = none := hid id (Nat.le_refl _) (by unfold STRIDE; omega)
  unfold insK at h
  split at h
  · rename_i s i v
    have hqq := optC_some h
    clear h
    obtain ⟨e, he, h⟩ := hqq
    have hqq := optC_some h
    clear h
    obtain ⟨by_, hby, h⟩ := hqq
    have hqq := must_and h
    clear h
    obtain ⟨he1, h⟩ := hqq
    simp only [Bool.and_eq_true] at he1
    have he2 := beq_eq' he1.1
    obtain ⟨m2, b2, lo2, n2, rfl⟩ : ∃ m2 b2 lo2 n2, v = .osl m2 b2 lo2 n2 := by
      cases v <;> first | exact ⟨_, _, _, _, rfl⟩ | exact h.elim
    · replace h : must (m2.beq g.size && Nat.blt 0 n2) (match hget H b2 with
        | some (.arr m3 ys0) => must (m3.beq g.size && (lo2 + n2).ble ys0.length && ys0.all (fitsN g.size)) (decAllP g ((ys0.drop lo2).take n2) fun ys => insSK by_ g H F id k i b2 ys s)
        | _ => False) := h
      have hqq := must_and h
      clear h
      obtain ⟨hm2, h⟩ := hqq
      simp only [Bool.and_eq_true] at hm2
      have hm2s := beq_eq' hm2.1
      subst hm2s
      split at h
      · rename_i m3 ys0 hb2
        have hqq := must_and h
        clear h
        obtain ⟨hm3, h⟩ := hqq
        simp only [Bool.and_eq_true] at hm3
        have hm3 : (m3.beq g.size = true ∧ (lo2 + n2).ble ys0.length = true) ∧ ys0.all (fitsN g.size) = true := by simpa [and_assoc] using hm3
        have hm3s := beq_eq' hm3.1.1
        subst hm3s
        have hle2 := Nat.le_of_ble_eq_true hm3.1.2
        have hqq := decAllP_some h
        clear h
        obtain ⟨ys, hys, h⟩ := hqq
        have hyl := hys.length
        have hYl : ((ys0.drop lo2).take n2).length = n2 := by rw [List.length_take, List.length_drop]; omega
        obtain ⟨n2', rfl⟩ : ∃ q, n2 = q + 1 := ⟨n2 - 1, by have := Nat.le_of_ble_eq_true hm2.2; omega⟩
        have hel : ∀ {H1 : Heap}, hget H1 b2 = some (.arr g.size ys0) → elems H1 (.osl g.size b2 lo2 (n2' + 1)) = some ((ys0.drop lo2).take (n2' + 1)) := fun {H1} hb => by
          simp only [elems, hb, hm3.1.2, cond_true]
        have hne : ∃ a r, (ys0.drop lo2).take (n2' + 1) = a :: r := by
          cases hq : (ys0.drop lo2).take (n2' + 1) with
          | nil => rw [hq] at hYl; cases hYl
          | cons a r => exact ⟨a, r, rfl⟩
        have hfit : ((ys0.drop lo2).take (n2' + 1)).all (fitsN g.size) = true := hys.fits
        -- onto nothing
        have nil_ : ∀ (b0 : Option Nat), (∀ q, b0 = some q → q ≠ id ∧ q ≠ b2) → ∀ s', (s' = .nils ∨ s' = .emp) → i = 0 → roomP ys.length by_ → CR (okB c.X m H F) w.heap m [s', .int .i64 0, .osl g.size b2 lo2 (n2' + 1)] cargs 0 → cargs.size = 3 →
            k (.gs g id ys.length) ((id, some (.tarr g ys)) :: (match b0 with | some q => [(q, none)] | none => [])) [] [] → CallsTo P f cargs w fun cv w' => ∃ v e rd fz m', k v e rd fz ∧ Done c m H F w id v e fz cv m' w' := by
          intro b0 hb0 s' hs' hi hroom hcr hcz hk
          obtain ⟨a, r, hq⟩ := hne
          have hlen' : n2' + 1 = ys.length := by omega
          have hap : aappend T H F id [S, S] s' (.osl g.size b2 lo2 (n2' + 1)) = .ok (.osl g.size id 0 (n2' + 1)) [(id, some (.arr g.size ((ys0.drop lo2).take (n2' + 1))))] (idOf s' ++ idOf (.osl g.size b2 lo2 (n2' + 1))) [] := by
            rw [aappend_eq he hby (hel hb2) (by rw [he2]; exact hfit), hq, he2]
            have hl : (a :: r).length = n2' + 1 := by rw [← hq]; exact hYl
            have hr : room (n2' + 1) by_ = true := room_of (by rw [hlen']; exact hroom)
            rcases hs' with rfl | rfl <;> simp only [appendV, hl, hr, cond_true, newArr]
          have hins : insH T S [s', .int .i64 0, .osl g.size b2 lo2 (n2' + 1)] H F id = some (.osl g.size id 0 (n2' + 1), happ H [(id, some (.arr g.size ((ys0.drop lo2).take (n2' + 1))))], F, id + STRIDE) := by
            have e0 : insH T S [s', .int .i64 0, .osl g.size b2 lo2 (n2' + 1)] H F id = insS T S 0 g.size b2 lo2 (n2' + 1) H F id s' := rfl
            rw [e0]
            rcases hs' with rfl | rfl <;> (unfold insS; simp only [Nat.beq_refl, cond_true, insEnd, hap])
          have hcall := hp _ _ _ _ _ hins c m w cargs hs hcr hcz hid0
          have hrow := hys.obj
          cases b0 with
          | none =>
            have hk : k (.gs g id ys.length) [(id, some (.tarr g ys))] [] [] := hk
            exact hook_fin (e1 := [(id, some (.arr g.size ((ys0.drop lo2).take (n2' + 1))))]) (HLe.refl H) hk (by rw [← hlen']; exact gs_up) ((HLe.refl H).set hrow id) (Nat.le_refl _) hcall
          | some q =>
            have hk : k (.gs g id ys.length) [(id, some (.tarr g ys)), (q, none)] [] [] := hk
            refine hook_fin (e1 := [(id, some (.arr g.size ((ys0.drop lo2).take (n2' + 1)))), (q, none)]) (HLe.refl H) hk (by rw [← hlen']; exact gs_up) (((HLe.refl H).set hrow id).del q) (Nat.le_refl _) (hcall.mono fun cv w' ⟨m', ha⟩ => ⟨m', ?_⟩)
            obtain ⟨hx, hsr⟩ := ha.sr.del q
            exact ⟨ha.ext.trans hx, hsr, hx.vr ha.vr, ha.le, ha.dom⟩
        have hsplit : ∀ {s' : AV}, CR (okB c.X m H F) w.heap m [s', .int .i64 i, .osl g.size b2 lo2 (n2' + 1)] cargs 0 → ∃ v0, cargs[0]? = some v0 ∧ VR (okB c.X m H F) w.heap m s' v0 := fun hcr => by
          obtain ⟨v0, h0, g0⟩ := hcr 0 _ rfl
          exact ⟨v0, by rw [Nat.zero_add] at h0; exact h0, g0⟩
        have hswap : ∀ {s' s'' : AV} {v0 : Value}, cargs[0]? = some v0 → (∀ H1, HLe H H1 → VR (okB c.X m H1 F) w.heap m s'' v0) → CR (okB c.X m H F) w.heap m [s', .int .i64 i, .osl g.size b2 lo2 (n2' + 1)] cargs 0 → ∀ {H1}, HLe H H1 → CR (okB c.X m H1 F) w.heap m [s'', .int .i64 i, .osl g.size b2 lo2 (n2' + 1)] cargs 0 := by
          intro s' s'' v0 h0 hv hcr H1 hH j x hx
          match j with
          | 0 => simp at hx; subst hx; exact ⟨v0, by rw [Nat.zero_add]; exact h0, hv H1 hH⟩
          | j + 1 =>
            obtain ⟨u, hu, hr⟩ := hcr (j + 1) x (by simpa using hx)
            exact ⟨u, hu, hr.mono (fun β C e z ho hh => ⟨okB_le hH ho, hh⟩) (MLe.refl _)⟩
        -- onto a row of one's own
        have own_ : ∀ (b n : Nat) (l : List g.T) (ps : List AV) (H1 : Heap), HLe H H1 → hlive H1 F b = some (.arr g.size ps) → hget H1 b2 = some (.arr g.size ys0) → DRow g ps l → n = l.length → b.beq b2 = false → (0 ≤ i ∧ i ≤ n ∧ roomP (l.length + ys.length) by_) →
            (∀ H2, HLe H1 H2 → HLe H2 H → True) → CR (okB c.X m H1 F) w.heap m [.osl g.size b 0 n, .int .i64 i, .osl g.size b2 lo2 (n2' + 1)] cargs 0 → HLe (happ H1 [(id, some (.tarr g (l.take i.toNat ++ ys ++ l.drop i.toNat))), (b, none)]) (happ H [(id, some (.tarr g (l.take i.toNat ++ ys ++ l.drop i.toNat))), (b, none)]) →
            k (.gs g id (n + ys.length)) [(id, some (.tarr g (l.take i.toNat ++ ys ++ l.drop i.toNat))), (b, none)] [] [] → CallsTo P f cargs w fun cv w' => ∃ v e rd fz m', k v e rd fz ∧ Done c m H F w id v e fz cv m' w' := by
          intro b n l ps H1 hH hb hb2' hr hn hbb hi _ hcr hback hk
          obtain ⟨hi0, hin, hroom⟩ := hi
          obtain ⟨i, rfl⟩ := Int.eq_ofNat_of_zero_le hi0
          have hpl := hr.length
          simp only [Int.toNat_natCast] at hback hk
          have hin : i ≤ n := by omega
          obtain ⟨a, r, hq⟩ := hne
          have hl : (a :: r).length = n2' + 1 := by rw [← hq]; exact hYl
          have hr2 : room (n + (n2' + 1)) by_ = true := room_of (by rw [hn, ← hYl, hyl]; exact hroom)
          have hrow := insL_row hr hys i
          have hlen : n + (n2' + 1) = n + ys.length := by omega
          have hins : ∃ nx, insH T S [.osl g.size b 0 n, .int .i64 i, .osl g.size b2 lo2 (n2' + 1)] H1 F id = some (.osl g.size id 0 (n + (n2' + 1)), happ H1 [(id, some (.arr g.size (insL ps ((ys0.drop lo2).take (n2' + 1)) i))), (b, none)], F, nx) ∧ nx ≤ id + STRIDE := by
            have e0 : insH T S [.osl g.size b 0 n, .int .i64 i, .osl g.size b2 lo2 (n2' + 1)] H1 F id = insS T S i g.size b2 lo2 (n2' + 1) H1 F id (.osl g.size b 0 n) := rfl
            rw [e0]
            unfold insS
            simp only
            cases hbi : i.beq n with
            | true =>
              have hbi := Nat.eq_of_beq_eq_true hbi
              subst hbi
              refine ⟨id + STRIDE, ?_, Nat.le_refl _⟩
              have e3 : (0 + i + (n2' + 1)).ble ps.length = false := by
                cases hz : (0 + i + (n2' + 1)).ble ps.length with
                | false => rfl
                | true => have := Nat.le_of_ble_eq_true hz; omega
              have hap : aappend T H1 F id [S, S] (.osl g.size b 0 i) (.osl g.size b2 lo2 (n2' + 1)) = .ok (.osl g.size id 0 (i + (n2' + 1))) [(id, some (.arr g.size (insL ps ((ys0.drop lo2).take (n2' + 1)) i))), (b, none)] (idOf (.osl g.size b 0 i) ++ idOf (.osl g.size b2 lo2 (n2' + 1))) [] := by
                rw [aappend_eq he hby (hel hb2') (by rw [he2]; exact hfit), hq, he2]
                have e2 : (0 + i).ble ps.length = true := Nat.ble_eq_true_of_le (by omega)
                simp only [appendV, appendTo, hb, beq_same, Bool.and_self, Bool.true_and, e2, hl, hr2, cond_true, e3, cond_false, newArr, List.drop_zero]
                have : insL ps (a :: r) i = ps.take i ++ a :: r := by
                  unfold insL
                  rw [List.drop_eq_nil_of_le (by omega), List.append_nil]
                rw [this]
              simp only [cond_true, insEnd, hap]
            | false =>
              refine ⟨id + 1, ?_, by unfold STRIDE; omega⟩
              have hlt : i < n := by
                rcases Nat.lt_or_ge i n with h | h
                · exact h
                · have : i = n := by omega
                  rw [this, beq_same] at hbi; cases hbi
              simp only [cond_false, insMid, he, hby, hb, hb2', he2]
              have hcond : (!(b.beq b2) && (Nat.blt 1 g.size && (g.size.beq g.size && (g.size.beq g.size && (g.size.beq g.size && (g.size.beq g.size && ((0 + n).ble ps.length && (i.blt n && ((lo2 + (n2' + 1)).ble ys0.length && (Nat.blt 0 (n2' + 1) && (room (n + (n2' + 1)) by_ && (ps.all (fitsN g.size) && ys0.all (fitsN g.size))))))))))))) = true := by
                have a1 : (0 + n).ble ps.length = true := Nat.ble_eq_true_of_le (by omega)
                have a2 : i.blt n = true := Nat.ble_eq_true_of_le hlt
                have a3 : Nat.blt 0 (n2' + 1) = true := Nat.ble_eq_true_of_le (by omega)
                rw [hbb, he1.2, beq_same, a1, a2, hm3.1.2, a3, hr2, hr.fits, hm3.2]; rfl
              unfold insMid2
              rw [hcond, cond_true]
              have e1 : (ps.drop 0).take n = ps := by rw [List.drop_zero, List.take_of_length_le (by omega)]
              rw [e1]
              rfl
          obtain ⟨nx, hins, hnx⟩ := hins
          have hcall := hp _ _ _ _ _ hins c m w cargs (hs.le hH) hcr hsz hid0
          exact hook_fin (e1 := [(id, some (.arr g.size (insL ps ((ys0.drop lo2).take (n2' + 1)) i))), (b, none)]) hH hk (by rw [hlen]; exact gs_up) ((((HLe.refl H1).set hrow.obj id).del b).trans hback) hnx hcall
        unfold insSK at h
        have row_ : insRowK by_ g H F id k i b2 ys s → CallsTo P f cargs w fun cv w' => ∃ v e rd fz m', k v e rd fz ∧ Done c m H F w id v e fz cv m' w' := by
          intro hq0
          clear h
          have h := hq0
          clear hq0
          have tarr : ∀ {b n : Nat} {g' : GT} {l0 : List g'.T} {l : List g.T}, hlive H F b = some (.tarr g' l0) → listOf g (dec g) (.tl g' l0) = some l → n = l.length → (!(b.beq b2) && !(b.beq id)) = true → (0 ≤ i ∧ i ≤ n ∧ roomP (l.length + ys.length) by_) →
              k (.gs g id (n + ys.length)) [(id, some (.tarr g (l.take i.toNat ++ ys ++ l.drop i.toNat))), (b, none)] [] [] → (∀ H1, HLe H H1 → CR (okB c.X m H1 F) w.heap m [.osl g.size b 0 n, .int .i64 i, .osl g.size b2 lo2 (n2' + 1)] cargs 0) →
              CallsTo P f cargs w fun cv w' => ∃ v e rd fz m', k v e rd fz ∧ Done c m H F w id v e fz cv m' w' := by
            intro b n g' l0 l hb hl hn hbb hi hk hcr
            obtain ⟨rfl, hl⟩ := listOf_tl hl
            simp only at hl
            subst hl
            obtain ⟨hb', hbF⟩ := hlive_some hb
            simp only [Bool.and_eq_true, Bool.not_eq_true'] at hbb
            have hne2 : b ≠ b2 := fun e => by subst e; rw [beq_same] at hbb; cases hbb.1
            have hH : HLe H (hset H b (.arr g'.size (encs g' l))) := HLe.put hb' (tarr_le g' l)
            have hH2 : HLe (hset H b (.arr g'.size (encs g' l))) H := HLe.back hb' (arr_le g' l)
            refine own_ b n l (encs g' l) _ hH ?_ ?_ (DRow.encs g' l) hn hbb.1 hi (fun _ _ _ => trivial) (hcr _ hH) ((hH2.set (ObjLe.refl _) id).del b) hk
            · unfold hlive
              rw [(isIn_false b F).2 hbF, cond_false, hget_hset, if_pos rfl]
            · rw [hget_hset, if_neg hne2]; exact hb2
          cases s with
          | gs g1 b n =>
            simp only [insRowK, rowK] at h
            have hqq := must_and h
            clear h
            obtain ⟨hg1, h⟩ := hqq
            have hg1 := beq_eq' hg1
            split at h
            · rename_i g' l0 hb
              have hqq := optC_some h
              clear h
              obtain ⟨l, hl, hn, h⟩ := hqq
              have hqq := must_and h
              clear h
              obtain ⟨hbb, hi, hk⟩ := hqq
              obtain ⟨v0, h0, g0⟩ := hsplit hc
              generalize hsv : AV.gs g1 b n = sv at g0
              cases g0 with
              | gsE =>
                cases hsv
                have hl0 : l = [] := List.length_eq_zero_iff.1 hn.symm
                subst hl0
                have hi0 : i = 0 := by have := hi.1; have := hi.2.1; omega
                subst hi0
                simp only [Bool.and_eq_true, Bool.not_eq_true'] at hbb
                refine nil_ (some b) (fun q hq => ?_) .emp (.inr rfl) rfl (by have := hi.2.2; simpa using this) (hswap h0 (fun H1 _ => .emp) hc (HLe.refl H)) hsz (by simpa using hk)
                cases hq
                exact ⟨fun e => (by rw [e, beq_same] at hbb; cases hbb.2), fun e => (by rw [e, beq_same] at hbb; cases hbb.1)⟩
              | gs hv =>
                cases hsv
                rw [hg1] at hv
                exact tarr hb hl hn hbb hi hk fun H1 hH => hswap h0 (fun H1 hH => hv.mono (fun β C e z ho hh => ⟨okB_le hH ho, hh⟩) (MLe.refl _)) hc hH
              | _ => cases hsv
            · exact h.elim
          | osl m1 b lo n =>
            simp only [insRowK, rowK] at h
            have hqq := must_and h
            clear h
            obtain ⟨hg1, h⟩ := hqq
            simp only [Bool.and_eq_true] at hg1
            have hg2 := beq_eq' hg1.1
            have hg3 := beq_eq' hg1.2
            subst hg2; subst hg3
            obtain ⟨v0, h0, g0⟩ := hsplit hc
            have hcr : ∀ H1, HLe H H1 → CR (okB c.X m H1 F) w.heap m [.osl g.size b 0 n, .int .i64 i, .osl g.size b2 lo2 (n2' + 1)] cargs 0 := fun H1 hH => hswap h0 (fun H1 hH => g0.mono (fun β C e z ho hh => ⟨okB_le hH ho, hh⟩) (MLe.refl _)) hc hH
            split at h
            · rename_i g' l0 hb
              have hqq := optC_some h
              clear h
              obtain ⟨l, hl, hn, h⟩ := hqq
              have hqq := must_and h
              clear h
              obtain ⟨hbb, hi, hk⟩ := hqq
              exact tarr hb hl hn hbb hi hk hcr
            · rename_i m' xs hb
              have hqq := must_and h
              clear h
              obtain ⟨hm', h⟩ := hqq
              have hm' := beq_eq' hm'
              subst hm'
              have hqq := decAllP_some h
              clear h
              obtain ⟨l, hr, hn, h⟩ := hqq
              have hqq := must_and h
              clear h
              obtain ⟨hbb, hi, hk⟩ := hqq
              simp only [Bool.and_eq_true, Bool.not_eq_true'] at hbb
              exact own_ b n l xs H (HLe.refl H) hb hb2 hr hn hbb.1 hi (fun _ _ _ => trivial) (hcr H (HLe.refl H)) (HLe.refl _) hk
            · exact h.elim
          | _ => exact h.elim
        split at h
        · obtain ⟨⟨hi, hroom⟩, hk⟩ := h
          subst hi
          exact nil_ none (fun q hq => by cases hq) .nils (.inl rfl) rfl hroom hc hsz hk
        · obtain ⟨⟨hi, hroom⟩, hk⟩ := h
          subst hi
          exact nil_ none (fun q hq => by cases hq) .emp (.inr rfl) rfl hroom hc hsz hk
        · exact row_ h
      · exact h.elim
  · exact h.elim

end
end Go.Proofs.Ytmkmjjodiicmlaa.VS

/- Functions that work on their caller's own rows, for values that are not known: slices.Delete; slices.Grow of none. Conditions: none. -/
namespace Go.Proofs.Ytmkmjjodiicmlaa.VS
open Go.Shelf Go.RowKit

/-- slices.Grow of no slice. -/
def growK (T : Tabs) (S : TypeId) (g : GT) (args : List AV) (_H : Heap) (_F : List Nat) (id : Nat) (k : Kont) : Prop :=
  match args with
  | [.nils, .int .i64 n] => optC (fun e => optC (fun by_ => must (e.2.1.beq g.size) ((0 ≤ n ∧ roomP n.toNat by_) ∧ k (.gs g id 0) [(id, some (.tarr g []))] [] [])) (bytesOf T e.1)) (elemT T S)
  | _ => False

/-- slices.Delete. -/
def delK (T : Tabs) (S : TypeId) (g : GT) (args : List AV) (H : Heap) (F : List Nat) (id : Nat) (k : Kont) : Prop :=
  match args with
  | [s, .int .i64 i, .int .i64 j] => optC (fun e => must (e.2.1.beq g.size) (rowK H F g (fun b n l => must (!(b.beq id)) ((0 ≤ i ∧ i < j ∧ j ≤ n ∧ n ≤ 1099511627776) ∧ k (.gs g id (n - (j - i).toNat)) [(id, some (.tarr g (l.take i.toNat ++ l.drop j.toNat))), (b, none)] [] [])) s)) (elemT T S)
  | _ => False

variable [Syms]
section
variable {P : Program} {T : Tabs} {c : Ctx} {m : Map} {H : Heap} {F : List Nat} {w : World}

theorem growK_ok (hT : TyOK P T) {ρ : Ren} {f : FuncId} (A : GrowP P ρ f) {S : TypeId} {g : GT} (hS : ρ.t 22 = S) (hen : ∀ args w, (callFunc f args).run P w = .ok (.enter f args) w) : ∀ args H F id k, growK T S g args H F id k → ∀ (c : Ctx) (m : Map) (w : World) (cargs : Array Value), SR c m H F w → CR (okB c.X m H F) w.heap m args cargs 0 → cargs.size = args.length →
    (∀ b, id ≤ b → b < id + STRIDE → m b = none) → CallsTo P f cargs w fun cv w' => ∃ v e rd fz m', k v e rd fz ∧ Done c m H F w id v e fz cv m' w' := by
  subst hS
  intro args H F id k h c m w cargs hs hc hsz hid
  have hid0 : m id = none := hid id (Nat.le_refl _) (by unfold STRIDE; omega)
  unfold growK at h
  split at h
  · rename_i n
    obtain ⟨e, he, h1⟩ := optC_some h
    obtain ⟨by_, hby, h2⟩ := optC_some h1
    obtain ⟨hg, ⟨hn, hroom⟩, hk⟩ := must_and h2
    have hg := beq_eq' hg
    obtain ⟨n, rfl⟩ := Int.eq_ofNat_of_zero_le hn
    simp only [Int.toNat_natCast] at hroom
    obtain ⟨i0, z, hu, hi, hsz0, hz, hza, hzf, hpos⟩ := elemT_some hT he
    obtain ⟨i', hi', hbb⟩ := bytesOf_some hT hby
    rw [hi] at hi'; cases hi'
    have z9 : ∀ w, (Go.sizeOf e.1).run P w = .ok e.2.1 w := fun w => by simp [Go.sizeOf, typeInfo, hi, hsz0]
    obtain ⟨v0, q0, g0⟩ := hc 0 _ rfl
    obtain ⟨v1, q1, g1⟩ := hc 1 _ rfl
    cases g0; cases g1
    have hargs : cargs = #[.slice none 0 0, .int .i64 n] := by
      apply Array.ext
      · simpa using hsz
      · intro q hj1 hj2
        have hj : q = 0 ∨ q = 1 := by simp at hj2; omega
        rcases hj with rfl | rfl
        · rw [Nat.zero_add, Array.getElem?_eq_getElem hj1] at q0; simpa using q0
        · rw [Nat.zero_add, Array.getElem?_eq_getElem hj1] at q1; simpa using q1
    subst hargs
    refine .inr ⟨hen _ w, ?_⟩
    by_cases hn0 : n = 0
    · subst hn0
      refine (grow_none A hu w).mono ?_
      rintro e' w' ⟨rfl, rfl⟩
      obtain ⟨hx, hsr⟩ := hs.void hid0 g
      exact ⟨_, rfl, _, _, [], [], m, hk, hx, hsr, .gsE, fun b hb => .inl hb⟩
    · have hrm : room n by_ = true := room_of hroom
      obtain ⟨r1, r2, r3⟩ := room_facts (cp := 0) hrm (by omega)
      have hle : n ≤ 1099511627776 := Nat.le_trans (Nat.le_mul_of_pos_right _ (Nat.succ_pos by_)) hroom
      have hap := run_append_make_grow (P := P) (w := w) (ts := #[ρ.t 22, ρ.t 3]) (ty := ρ.t 22) rfl rfl hu A.tI hi hz (base := none) (sLen := 0) (sCap := 0) (n := n) (kx := .i64) (old := #[])
        (fun w' _ => by simp [Builtin.firstCells, loadCells, loadCellsFrom]) (by omega) (by simpa using r1) (by rw [hbb]; exact r3) (by rw [hbb, Nat.zero_add]; exact r2) (by rw [hsz0]; exact hpos) (by omega)
      rw [Nat.zero_add] at hap
      generalize hG : grownCap w n 0 e.1 = G at hap
      have hGn : n ≤ G := by rw [← hG]; exact grownCap_ge w _ _ _
      have hzf' : fitsN e.2.1 (ofV z) = true := by rw [← hza]; exact hzf
      obtain ⟨zc1, zc2, zc3⟩ := zero_cells hzf'
      generalize hROW : #[] ++ Builtin.zeroCells z.cells n ++ Builtin.zeroCells z.cells (G - n) = ROW at hap
      have hzs : ∀ n, (Builtin.zeroCells z.cells n).size = n * e.2.1 := fun n => by simp [Builtin.zeroCells, zc1]
      have hRs : ROW.size = G * e.2.1 := by
        rw [← hROW, Array.size_append, Array.size_append, hzs, hzs, Array.size_empty, Nat.zero_add, ← Nat.add_mul]
        congr 1; omega
      obtain ⟨f1, f2, f3, f4⟩ := alloc_facts w.drew (.cells ROW e.1)
      refine (grow_some A hu z9 n w.heap.size G w _ (by omega) hGn hle hap).mono ?_
      rintro e' w' ⟨rfl, rfl⟩
      obtain ⟨hx, hsr⟩ := hs.newArr hid0 (w' := w.drew.alloc (.cells ROW e.1)) ⟨f4.os, f4.tape, f4.output⟩ f1 f2 f3 (NoFz_zero _) hpos (s := e.2.1) (xs := []) (fun x hx => by cases hx) (by simp) (fun j x hx => by simp [flat] at hx)
      have hle' : HLe (hset H id (.arr e.2.1 [])) (hset H id (.tarr g [])) := (HLe.refl H).set (by rw [hg]; exact (DRow.nil (g := g)).obj) id
      refine ⟨_, rfl, _, _, [], [], _, hk, hx.trans ⟨MLe.refl _, fun β C e z ho hh => ⟨okB_le hle' ho, hh⟩⟩, hsr.le hle', .gs ?_, dom_upd⟩
      rw [← hg]
      refine .osl (upd_same _ _ _) (by simp) hpos rfl rfl (by simp) (by simp) ?_
      show 0 + (0 + G) * e.2.1 ≤ ROW.size
      rw [hRs, Nat.zero_add, Nat.zero_add]; exact Nat.le_refl _
  · exact h.elim

theorem delK_ok {f : FuncId} {S : TypeId} {g : GT} (hp : HOK1 P f (delH T S)) : ∀ args H F id k, delK T S g args H F id k → ∀ (c : Ctx) (m : Map) (w : World) (cargs : Array Value), SR c m H F w → CR (okB c.X m H F) w.heap m args cargs 0 → cargs.size = args.length →
    (∀ b, id ≤ b → b < id + STRIDE → m b = none) → CallsTo P f cargs w fun cv w' => ∃ v e rd fz m', k v e rd fz ∧ Done c m H F w id v e fz cv m' w' := by
  intro args H F id k h c m w cargs hs hc hsz hid
  have hid0 : m id = none := hid id (Nat.le_refl _) (by unfold STRIDE; omega)
  unfold delK at h
  split at h
  · rename_i s i j
    obtain ⟨e, he, h1⟩ := optC_some h
    obtain ⟨hg, h2⟩ := must_and h1
    have hg := beq_eq' hg
    clear h h1
    have own_ : ∀ (b n : Nat) (l : List g.T) (ps : List AV) (H1 : Heap), HLe H H1 → hlive H1 F b = some (.arr g.size ps) → DRow g ps l → n = l.length → (0 ≤ i ∧ i < j ∧ j ≤ n ∧ n ≤ 1099511627776) →
        CR (okB c.X m H1 F) w.heap m [.osl g.size b 0 n, .int .i64 i, .int .i64 j] cargs 0 → HLe (happ H1 [(id, some (.tarr g (l.take i.toNat ++ l.drop j.toNat))), (b, none)]) (happ H [(id, some (.tarr g (l.take i.toNat ++ l.drop j.toNat))), (b, none)]) →
        k (.gs g id (n - (j - i).toNat)) [(id, some (.tarr g (l.take i.toNat ++ l.drop j.toNat))), (b, none)] [] [] → CallsTo P f cargs w fun cv w' => ∃ v e rd fz m', k v e rd fz ∧ Done c m H F w id v e fz cv m' w' := by
      intro b n l ps H1 hH hb hr hn hi hcr hback hk
      obtain ⟨hi0, hij, hjn, hn40⟩ := hi
      obtain ⟨i, rfl⟩ := Int.eq_ofNat_of_zero_le hi0
      obtain ⟨j, rfl⟩ := Int.eq_ofNat_of_zero_le (a := j) (by omega)
      have hpl := hr.length
      simp only [Int.toNat_natCast] at hback hk
      have hrow : DRow g (ps.take i ++ ps.drop j) (l.take i ++ l.drop j) := (hr.take i).append (hr.drop j)
      have hlen : i + (n - j) = n - ((j : Int) - (i : Int)).toNat := by omega
      have hins : delH T S [.osl g.size b 0 n, .int .i64 i, .int .i64 j] H1 F id = some (.osl g.size id 0 (i + (n - j)), happ H1 [(id, some (.arr g.size (ps.take i ++ ps.drop j))), (b, none)], F, id + 1) := by
        have hcond : (g.size.beq g.size && (g.size.beq g.size && ((0 + n).ble ps.length && (i.blt j && (j.ble n && (n.ble 1099511627776 && ps.all (fitsN g.size))))))) = true := by
          have a1 : (0 + n).ble ps.length = true := Nat.ble_eq_true_of_le (by omega)
          have a2 : i.blt j = true := Nat.ble_eq_true_of_le (by omega)
          have a3 : j.ble n = true := Nat.ble_eq_true_of_le (by omega)
          have a4 : n.ble 1099511627776 = true := Nat.ble_eq_true_of_le hn40
          rw [beq_same, a1, a2, a3, a4, hr.fits]; rfl
        have e1 : (ps.drop 0).take n = ps := by rw [List.drop_zero, List.take_of_length_le (by omega)]
        unfold delH
        simp only [he, hb, hg, hcond, cond_true, e1]
        rfl
      have hcall := hp _ _ _ _ _ hins c m w cargs (hs.le hH) hcr hsz hid0
      exact hook_fin (nx := id + 1) (e1 := [(id, some (.arr g.size (ps.take i ++ ps.drop j))), (b, none)]) hH hk (by rw [← hlen]; exact gs_up) ((((HLe.refl H1).set hrow.obj id).del b).trans hback) (by unfold STRIDE; omega) hcall
    have tarr : ∀ {b n : Nat} {g' : GT} {l0 : List g'.T} {l : List g.T}, hlive H F b = some (.tarr g' l0) → listOf g (dec g) (.tl g' l0) = some l → n = l.length → (0 ≤ i ∧ i < j ∧ j ≤ n ∧ n ≤ 1099511627776) →
        k (.gs g id (n - (j - i).toNat)) [(id, some (.tarr g (l.take i.toNat ++ l.drop j.toNat))), (b, none)] [] [] → (∀ H1, HLe H H1 → CR (okB c.X m H1 F) w.heap m [.osl g.size b 0 n, .int .i64 i, .int .i64 j] cargs 0) →
        CallsTo P f cargs w fun cv w' => ∃ v e rd fz m', k v e rd fz ∧ Done c m H F w id v e fz cv m' w' := by
      intro b n g' l0 l hb hl hn hi hk hcr
      obtain ⟨rfl, hl⟩ := listOf_tl hl
      simp only at hl
      subst hl
      obtain ⟨hb', hbF⟩ := hlive_some hb
      have hH : HLe H (hset H b (.arr g'.size (encs g' l))) := HLe.put hb' (tarr_le g' l)
      have hH2 : HLe (hset H b (.arr g'.size (encs g' l))) H := HLe.back hb' (arr_le g' l)
      refine own_ b n l (encs g' l) _ hH ?_ (DRow.encs g' l) hn hi (hcr _ hH) ((hH2.set (ObjLe.refl _) id).del b) hk
      unfold hlive
      rw [(isIn_false b F).2 hbF, cond_false, hget_hset, if_pos rfl]
    obtain ⟨v0, h0, g0⟩ := hc 0 _ rfl
    rw [Nat.zero_add] at h0
    have hswap : ∀ {s'' : AV}, (∀ H1, HLe H H1 → VR (okB c.X m H1 F) w.heap m s'' v0) → ∀ {H1}, HLe H H1 → CR (okB c.X m H1 F) w.heap m [s'', .int .i64 i, .int .i64 j] cargs 0 := by
      intro s'' hv H1 hH q x hx
      match q with
      | 0 => simp at hx; subst hx; exact ⟨v0, by rw [Nat.zero_add]; exact h0, hv H1 hH⟩
      | q + 1 =>
        obtain ⟨u, hu, hr⟩ := hc (q + 1) x (by simpa using hx)
        exact ⟨u, hu, hr.mono (fun β C e z ho hh => ⟨okB_le hH ho, hh⟩) (MLe.refl _)⟩
    cases s with
    | gs g1 b n =>
      simp only [rowK] at h2
      obtain ⟨hg1, h⟩ := must_and h2
      have hg1 := beq_eq' hg1
      clear h2
      split at h
      · rename_i g' l0 hb
        obtain ⟨l, hl, hn, h3⟩ := optC_some h
        obtain ⟨_, hi, hk⟩ := must_and h3
        generalize hsv : AV.gs g1 b n = sv at g0
        cases g0 with
        | gsE => cases hsv; omega
        | gs hv =>
          cases hsv
          rw [hg1] at hv
          exact tarr hb hl hn hi hk fun H1 hH => hswap (fun H1 hH => hv.mono (fun β C e z ho hh => ⟨okB_le hH ho, hh⟩) (MLe.refl _)) hH
        | _ => cases hsv
      · exact h.elim
    | osl m1 b lo n =>
      simp only [rowK] at h2
      obtain ⟨hg1, h⟩ := must_and h2
      clear h2
      simp only [Bool.and_eq_true] at hg1
      have hg2 := beq_eq' hg1.1
      have hg3 := beq_eq' hg1.2
      subst hg2; subst hg3
      have hcr : ∀ H1, HLe H H1 → CR (okB c.X m H1 F) w.heap m [.osl g.size b 0 n, .int .i64 i, .int .i64 j] cargs 0 := fun H1 hH => hswap (fun H1 hH => g0.mono (fun β C e z ho hh => ⟨okB_le hH ho, hh⟩) (MLe.refl _)) hH
      split at h
      · rename_i g' l0 hb
        obtain ⟨l, hl, hn, h3⟩ := optC_some h
        obtain ⟨_, hi, hk⟩ := must_and h3
        exact tarr hb hl hn hi hk hcr
      · rename_i m' xs hb
        obtain ⟨hm', h3⟩ := must_and h
        have hm' := beq_eq' hm'
        subst hm'
        obtain ⟨l, hr, hn, h4⟩ := decAllP_some h3
        obtain ⟨_, hi, hk⟩ := must_and h4
        exact own_ b n l xs H (HLe.refl H) hb hr hn hi (hcr H (HLe.refl H)) (HLe.refl _) hk
      · exact h.elim
    | _ => exact h2.elim
  · exact h.elim

end
end Go.Proofs.Ytmkmjjodiicmlaa.VS

/- Arguments that read as data, told as the machine's values. Conditions: none. -/
namespace Go.Proofs.Ytmkmjjodiicmlaa.VS
open Go.ChangeShapes
variable [Syms]

section
variable {H : Type} {enc : TypeId × Value → H} {P : Program} {W : World} {sp : Nat → Bool}

/-- A type whose values read so. -/
structure RdT {H : Type} (enc : TypeId × Value → H) (P : Program) (W : World) (sp : Nat → Bool) {α : Type} (n : Nat) (ec : α → List AV) (fit : α → Prop) (t : TypeId) : Prop where
  cells : P.cellsOf t = n
  rd : ∀ (fuel : Nat) (cs : List Value) (x : DataW H × List MemPlace), DataW.trod enc P W 0 sp true fuel t cs = some x → cs.length = n ∧ ∃ y, (ec y).length = n ∧ CR (fun _ => True) W.heap noMap (ec y) cs.toArray 0 ∧ fit y

omit [Syms] in
theorem cr_single [Syms] {ok : Nat → Prop} {h : Array Obj} {m : Map} {a : AV} {c : Value} (H : VR ok h m a c) : CR ok h m [a] [c].toArray 0 := fun j x hx => by
  cases j with
  | zero => simp at hx; subst hx; exact ⟨c, rfl, H⟩
  | succ j => simp at hx

theorem rd_int {t : TypeId} {k : IntKind} (ht : P.underlying t = some (.int k)) (hc : P.cellsOf t = 1) : RdT enc P W sp 1 (fun n : Int => [.int k n]) (fun n => (Lit.int k n).wf = true) t := by
  refine ⟨hc, fun fuel cs x h => ?_⟩
  cases fuel with
  | zero => simp [DataW.trod] at h
  | succ fuel =>
    have : ∃ n, cs = [.int k n] ∧ (Lit.int k n).wf = true := by
      unfold DataW.trod at h
      rw [ht] at h
      split at h <;> simp_all
    obtain ⟨n, rfl, hw⟩ := this
    exact ⟨rfl, n, rfl, cr_single (.int _ _), hw⟩

theorem rd_bool {t : TypeId} (ht : P.underlying t = some .bool) (hc : P.cellsOf t = 1) : RdT enc P W sp 1 (fun b : Bool => [.ub b]) (fun _ => True) t := by
  refine ⟨hc, fun fuel cs x h => ?_⟩
  cases fuel with
  | zero => simp [DataW.trod] at h
  | succ fuel =>
    have : ∃ n, cs = [.bool n] := by
      unfold DataW.trod at h
      rw [ht] at h
      split at h <;> simp_all
    obtain ⟨b, rfl⟩ := this
    exact ⟨rfl, b, rfl, cr_single (.ub _), trivial⟩

theorem rd_str {t : TypeId} (ht : P.underlying t = some .string) (hc : P.cellsOf t = 1) : RdT enc P W sp 1 (fun s : Str => [.str s]) (fun s => s.length ≤ maxLen) t := by
  refine ⟨hc, fun fuel cs x h => ?_⟩
  cases fuel with
  | zero => simp [DataW.trod] at h
  | succ fuel =>
    have : ∃ s : ByteArray, cs = [.string s] ∧ s.size ≤ maxLen := by
      unfold DataW.trod at h
      rw [ht] at h
      split at h <;> simp_all
    obtain ⟨s, rfl, hs⟩ := this
    exact ⟨rfl, s.data.toList, rfl, cr_single (.str _ _ rfl), hs⟩

/-- A byte. -/
theorem rd_u8 {t : TypeId} (ht : P.underlying t = some (.int .u8)) (hc : P.cellsOf t = 1) : RdT enc P W sp 1 (fun b : UInt8 => [.int .u8 b.toNat]) (fun _ => True) t :=
  ⟨hc, fun fuel cs x h => by
    obtain ⟨h1, n, _, h3, h4⟩ := (rd_int ht hc).rd fuel cs x h
    have h4 : 0 ≤ n ∧ n ≤ 255 := by
      simp only [Lit.wf, Bool.and_eq_true, decide_eq_true_eq] at h4
      exact h4
    have e : (((UInt8.ofNat n.toNat).toNat : Nat) : Int) = n := by rw [UInt8.toNat_ofNat']; omega
    exact ⟨h1, UInt8.ofNat n.toNat, rfl, by rw [e]; exact h3, trivial⟩⟩

/-- What fits a row's elements. -/
def fitL {α : Type} (fit : α → Prop) (l : List α) : Prop := l.length ≤ maxLen ∧ ∀ x ∈ l, fit x

omit [Syms] in
theorem cells?_some {w : World} {a : Addr} {n : Nat} {cs : List Value} (h : w.cells? 0 a n = some cs) : cs.length = n ∧ ∀ (j : Nat) (v : Value), cs[j]? = some v → w.cell? (a.add j) = some v := by
  unfold World.cells? at h
  rw [if_pos (Nat.zero_le _)] at h
  have hl : cs.length = n := by simpa using mapM_some_length h
  refine ⟨hl, fun j v hj => ?_⟩
  have hjl : j < n := by rw [← hl]; exact (List.getElem?_eq_some_iff.1 hj).1
  rw [mapM_some_get h j j (by simp [hjl]), hj]

omit [Syms] in
/-- A row of things, each there. -/
theorem row_of {α : Type} (n : Nat) {p : Nat → α → Prop} (h : ∀ i, i < n → ∃ x, p i x) : ∃ xs : List α, xs.length = n ∧ ∀ i x, xs[i]? = some x → p i x := by
  induction n with
  | zero => exact ⟨[], rfl, fun i x hx => by simp at hx⟩
  | succ n ih =>
    obtain ⟨xs, h1, h2⟩ := ih fun i hi => h i (by omega)
    obtain ⟨x, hx⟩ := h n (by omega)
    refine ⟨xs ++ [x], by simp [h1], fun i y hy => ?_⟩
    rcases Nat.lt_or_ge i xs.length with hi | hi
    · rw [List.getElem?_append_left hi] at hy; exact h2 i y hy
    · rw [List.getElem?_append_right hi] at hy
      have : i = n := by
        have := (List.getElem?_eq_some_iff.1 hy).1
        simp at this; omega
      subst this
      rw [h1, Nat.sub_self] at hy
      simp at hy; subst hy; exact hx

theorem rd_slice {g : GT} {t e : TypeId} {fit : g.T → Prop} (ht : P.underlying t = some (.slice e)) (hc : P.cellsOf t = 1) (he : RdT enc P W sp g.size (fun x : g.T => (Go.Proofs.Ytmkmjjodiicmlaa.VS.enc g x).cells) fit e) :
    RdT enc P W sp 1 (fun l : List g.T => [.tl g l]) (fitL fit) t := by
  refine ⟨hc, fun fuel cs x h => ?_⟩
  rcases Go.Deep.open_slice ht h with ⟨rfl, _⟩ | ⟨a, len, cap, m, n, D, Pl, rfl, _, h2, h3, h4, _, h6⟩
  · exact ⟨rfl, [], rfl, cr_single (.tl (.slE fun _ => rfl)), Nat.zero_le _, fun x hx => by simp at hx⟩
  · have hm : len ≤ m := by rw [h4]; split <;> omega
    have hall : ∀ i, i < len → ∃ y : g.T, (∃ cs', W.cells? 0 (a.add (i * g.size)) g.size = some cs' ∧ CR (fun _ => True) W.heap noMap (Go.Proofs.Ytmkmjjodiicmlaa.VS.enc g y).cells cs'.toArray 0) ∧ fit y := by
      intro i hi
      obtain ⟨cs', k1, k2⟩ := h6 i (by omega)
      obtain ⟨q1, y, q2, q3, q4⟩ := he.rd _ _ _ k2
      rw [he.cells] at k1
      exact ⟨y, ⟨cs', k1, q3⟩, q4⟩
    obtain ⟨ys, r1, r2⟩ := row_of len hall
    refine ⟨rfl, ys, rfl, cr_single (.tl ?_), by show ys.length ≤ maxLen; omega, fun y hy => ?_⟩
    · by_cases h0 : len = 0
      · subst h0
        obtain rfl : ys = [] := List.length_eq_zero_iff.1 r1
        exact .slE nofun
      · have hpos := g.size_pos
        have cell : ∀ i y, ys[i]? = some y → ∀ j b, (Go.Proofs.Ytmkmjjodiicmlaa.VS.enc g y).cells[j]? = some b → ∃ v, W.cell? ((a.add (i * g.size)).add j) = some v ∧ VR (fun _ => True) W.heap noMap b v := by
          intro i y hy j b hb
          obtain ⟨⟨cs', q1, q2⟩, _⟩ := r2 i y hy
          obtain ⟨v, hv, hr⟩ := q2 j b hb
          obtain ⟨_, q4⟩ := cells?_some q1
          exact ⟨v, q4 j v (by simpa using hv), hr⟩
        have hy0 : ys[0]? = some (ys[0]'(by omega)) := List.getElem?_eq_getElem _
        have hlen0 := enc_size g (ys[0]'(by omega))
        obtain ⟨v0, hv0, _⟩ := cell 0 _ hy0 0 _ (List.getElem?_eq_getElem (by rw [hlen0]; exact hpos))
        rw [Nat.zero_mul] at hv0
        have ha0 : (a.add 0).add 0 = a := rfl
        rw [ha0] at hv0
        unfold World.cell? at hv0
        split at hv0
        · rename_i C e' z hC
          split at hv0
          · cases hv0
          · rename_i hspot
            obtain ⟨β, o, spot⟩ := a
            have : spot = none := by cases spot <;> simp_all
            subst this
            have hcellC : ∀ j, W.cell? ⟨β, j, none⟩ = C[j]? := fun j => by unfold World.cell?; rw [show W.heap[(⟨β, j, none⟩ : Addr).block]? = some (.cells C e' z) from hC]; rfl
            have hcr : CR (fun _ => True) W.heap noMap (flat (encs g ys)) C o := by
              intro j b hb
              have hfl := flat_length (encs_size g ys)
              rw [encs_length] at hfl
              have hj : j < ys.length * g.size := by rw [← hfl]; exact (List.getElem?_eq_some_iff.1 hb).1
              have hi : j / g.size < ys.length := (Nat.div_lt_iff_lt_mul hpos).2 hj
              have hr : j % g.size < g.size := Nat.mod_lt j hpos
              have hjd : j / g.size * g.size + j % g.size = j := Nat.div_add_mod' j g.size
              have hyi : ys[j / g.size]? = some (ys[j / g.size]'hi) := List.getElem?_eq_getElem hi
              have hei : (encs g ys)[j / g.size]? = some (Go.Proofs.Ytmkmjjodiicmlaa.VS.enc g (ys[j / g.size]'hi)) := by simp [encs, hyi]
              have := flat_getElem? (encs_size g ys) hei hr
              rw [hjd, hb] at this
              obtain ⟨v, hv, hvr⟩ := cell _ _ hyi _ _ this.symm
              rw [add_none, add_none, hcellC] at hv
              exact ⟨v, by rw [← hv]; congr 1; omega, hvr⟩
            exact .sl' (fun e0 => by have := congrArg List.length e0; rw [encs_length, List.length_nil] at this; omega) (by rw [encs_length, r1]) trivial hC hpos (encs_size g ys) h2 hcr
        · cases hv0
    · obtain ⟨i, hi, rfl⟩ := List.mem_iff_getElem.1 hy
      exact (r2 i _ (List.getElem?_eq_getElem hi)).2

/-- Fields in a row. -/
def RdF {H : Type} (enc : TypeId × Value → H) (P : Program) (W : World) (sp : Nat → Bool) {α : Type} (off n : Nat) (ec : α → List AV) (fit : α → Prop) (fs : List Field) : Prop :=
  ∀ (fuel : Nat) (cs : List Value), (∀ (i : Nat) (f : Field), fs[i]? = some f → ∃ x, DataW.trod enc P W 0 sp true fuel f.type ((cs.drop f.offset).take (P.cellsOf f.type)) = some x) →
    ∃ y, (ec y).length = n ∧ CR (fun _ => True) W.heap noMap (ec y) cs.toArray off ∧ fit y

theorem rdF_nil {off : Nat} : RdF enc P W sp off 0 (fun _ : Unit => []) (fun _ => True) [] := fun fuel cs _ => ⟨(), rfl, fun j x hx => by simp at hx, trivial⟩

theorem rdF_cons {α β : Type} {off n1 n2 : Nat} {e1 : α → List AV} {e2 : β → List AV} {p1 : α → Prop} {p2 : β → Prop} {f : Field} {fs : List Field} (h0 : f.offset = off) (h1 : RdT enc P W sp n1 e1 p1 f.type) (h2 : RdF enc P W sp (off + n1) n2 e2 p2 fs) :
    RdF enc P W sp off (n1 + n2) (fun y : α × β => e1 y.1 ++ e2 y.2) (fun y => p1 y.1 ∧ p2 y.2) (f :: fs) := by
  intro fuel cs h
  obtain ⟨x, hx⟩ := h 0 f rfl
  obtain ⟨_, y1, k1, k2, k3⟩ := h1.rd _ _ _ hx
  obtain ⟨y2, q1, q2, q3⟩ := h2 fuel cs fun i f' hf' => h (i + 1) f' (by simpa using hf')
  refine ⟨(y1, y2), by simp [k1, q1], fun j b hb => ?_, k3, q3⟩
  rcases Nat.lt_or_ge j (e1 y1).length with hj | hj
  · rw [List.getElem?_append_left hj] at hb
    obtain ⟨v, hv, hr⟩ := k2 j b hb
    refine ⟨v, ?_, hr⟩
    rw [Nat.zero_add, List.getElem?_toArray, h1.cells, h0, List.getElem?_take, if_pos (by omega), List.getElem?_drop] at hv
    rw [List.getElem?_toArray]; exact hv
  · rw [List.getElem?_append_right hj] at hb
    obtain ⟨v, hv, hr⟩ := q2 _ b hb
    exact ⟨v, by rw [← hv]; congr 1; omega, hr⟩

theorem rd_struct {α : Type} {n : Nat} {ec : α → List AV} {fit : α → Prop} {t : TypeId} {fs : Array Field} (ht : P.underlying t = some (.struct fs)) (hc : P.cellsOf t = n) (h : RdF enc P W sp 0 n ec fit fs.toList) : RdT enc P W sp n ec fit t := by
  refine ⟨hc, fun fuel cs x hx => ?_⟩
  obtain ⟨xs, m, rfl, _, h3, h4, h5⟩ := DataW.trod_struct ht hx
  refine ⟨by rw [h3, hc], h m cs fun i f hf => ?_⟩
  have hf' : fs[i]? = some f := by rw [← Array.getElem?_toList]; exact hf
  have hi : i < xs.length := by rw [h4]; exact (Array.getElem?_eq_some_iff.1 hf').1
  exact ⟨xs[i], by rw [h5 i f hf', List.getElem?_eq_getElem hi]⟩

theorem RdT.map {α β : Type} {n : Nat} {ec : α → List AV} {fit : α → Prop} {t : TypeId} (h : RdT enc P W sp n ec fit t) (f : α → β) {ec' : β → List AV} {fit' : β → Prop} (h1 : ∀ a, ec' (f a) = ec a) (h2 : ∀ a, fit a → fit' (f a)) : RdT enc P W sp n ec' fit' t :=
  ⟨h.cells, fun fuel cs x hx => by
    obtain ⟨k1, y, k2, k3, k4⟩ := h.rd fuel cs x hx
    exact ⟨k1, f y, by rw [h1]; exact k2, by rw [h1]; exact k3, h2 y k4⟩⟩

/-- An argument whose cells lie in the value: a struct. -/
theorem rd_agg {α : Type} {n : Nat} {ec : α → List AV} {fit : α → Prop} {t : TypeId} (h : RdT enc P W sp n ec fit t) {v : Value} {d : DataW H} {ps : List MemPlace} (hv : DataW.Trod enc P W 0 sp true t v d ps) (hok : ∃ cs, v = .agg cs ∧ cs.size = P.cellsOf t) :
    ∃ y, VR (fun _ => True) W.heap noMap (.agg (ec y)) v ∧ fit y := by
  obtain ⟨fuel, hx⟩ := hv
  obtain ⟨cs, rfl, hs⟩ := hok
  obtain ⟨k1, y, k2, k3, k4⟩ := h.rd fuel _ _ hx
  have k3 : CR (fun _ => True) W.heap noMap (ec y) cs 0 := by simpa [Value.cells] using k3
  exact ⟨y, .agg' (by rw [k2, hs, h.cells]) k3, k4⟩

/-- An argument of one cell. -/
theorem rd_one {α : Type} {ec : α → AV} {fit : α → Prop} {t : TypeId} (h : RdT enc P W sp 1 (fun a => [ec a]) fit t) {v : Value} {d : DataW H} {ps : List MemPlace} (hv : DataW.Trod enc P W 0 sp true t v d ps) (hok : v.cells = #[v]) :
    ∃ y, VR (fun _ => True) W.heap noMap (ec y) v ∧ fit y := by
  obtain ⟨fuel, hx⟩ := hv
  rw [hok] at hx
  obtain ⟨k1, y, k2, k3, k4⟩ := h.rd fuel _ _ hx
  obtain ⟨u, hu, hr⟩ := k3 0 (ec y) rfl
  simp at hu; subst hu
  exact ⟨y, hr, k4⟩

end
end Go.Proofs.Ytmkmjjodiicmlaa.VS

/- The row of a law that answers true and leaves all as it was, whatever its arguments' types; structs by their fields' places. Conditions: none. -/
namespace Go.Proofs.Ytmkmjjodiicmlaa.VS
open Go.ChangeShapes Go.WideShapes Go.RowKit

section
variable {H : Type} {enc : TypeId × Value → H} {P : Program} {W W' : World}

theorem sameAt_kept (hk : Kept W W') {p : MemPlace} (hp : p.block < W.heap.size) : W.sameAt W' p := by
  cases p with
  | cell b off =>
    show W'.cell? ⟨b, off, none⟩ = W.cell? ⟨b, off, none⟩
    unfold World.cell?
    rw [show W'.heap[(⟨b, off, none⟩ : Addr).block]? = W.heap[(⟨b, off, none⟩ : Addr).block]? from hk.block b hp fun h => h]
  | map b => exact hk.block b hp fun h => h

theorem trodAll_kept {sp : Nat → Bool} (hk : Kept W W') : ∀ {ts : List TypeId} {vs : List Value} {ds : List (DataW H)} {ps : List MemPlace}, DataW.TrodAll enc P W 0 sp true ts vs ds ps → (∀ p ∈ ps, p.block < W.heap.size) → DataW.TrodAll enc P W' 0 sp true ts vs ds ps
  | [], [], [], _, h, _ => h
  | _ :: _, _ :: _, _ :: _, _, ⟨p, q, ⟨n, h1⟩, h2, e⟩, hs =>
    ⟨p, q, ⟨n, DataW.trod_carry n _ _ _ h1 fun x hx => sameAt_kept hk (hs x (by rw [e]; exact List.mem_append_left _ hx))⟩, trodAll_kept hk h2 (fun x hx => hs x (by rw [e]; exact List.mem_append_right _ hx)), e⟩

/-- The post of a law that answers true, changes nothing, and has no variables. -/
theorem post_law (K : Kids P (· < P.types.size)) (hz : ∀ t e, t < P.types.size → P.underlying t = some (.slice e) → 0 < P.cellsOf e) {f : Func} {s : ChangeSpec} {apart fresh handsOn again : Bool} {args : Array Value} {ds gs : List (DataW H)} {before : List MemPlace} {tb : TypeId}
    (hW : DataW.Whole enc P f.params.toList s.vars apart W args.toList ds gs before) (hT : ∀ t ∈ f.params.toList, t < P.types.size) (hv : s.vars = []) (hrt : f.resultTypes = #[tb]) (hb : P.underlying tb = some .bool)
    (hres : (s.fn H (ds ++ gs)).results = [.lit (.bool true)]) (hargs : (s.fn H (ds ++ gs)).args = ds) (hvars : (s.fn H (ds ++ gs)).vars = []) (hk : Kept W W') :
    s.post enc P f apart fresh handsOn again W args (.bool true) W' := by
  have hlt : ∀ p ∈ before, p.block < W.heap.size := fun p hp => hW.lt p hp
  have hA := hW
  obtain ⟨p, q, hA0, hV, e, _, _⟩ := hA
  rw [hv] at hV
  obtain ⟨rfl, rfl⟩ := trodVars_none hV
  rw [List.append_nil] at e
  subst e
  refine post_kept (pa := before) (pv := []) hW (fun b sp hd => ?_) (fun sp hsp => ?_) (fun sp _ => ?_) (by rw [List.append_nil]) hk (ok_one hrt rfl (okWide_bool_mk hb _))
  · rw [hrt, hres]; exact trodAll_cons_mk (shut_bool hb _) trodAll_mk0
  · rw [hargs]
    exact trodAll_kept hk (DataW.TrodAll.respare K hz hT hA0 hsp) hlt
  · rw [hv, hvars]; exact rfl

/-- An argument that is a row. -/
theorem slice_cells {base : Nat} {t e : TypeId} (ht : P.underlying t = some (.slice e)) {v : Value} (h : Value.okWide P W .any base t v) : v.cells = #[v] := by
  unfold Value.okWide at h
  rw [ht] at h
  cases v with
  | agg cs =>
    exfalso
    have h : Cell.okWide P W .any base t (.agg cs) := h
    unfold Cell.okWide at h
    rw [ht] at h
    simp only at h
    unfold Cell.ok at h
    rw [ht] at h
    exact h
  | _ => rfl

theorem agg_of {base : Nat} {t : TypeId} {v : Value} (h : Value.okWide P W .any base t v) {fs : Array Field} (ht : P.underlying t = some (.struct fs)) : ∃ cs, v = .agg cs ∧ cs.size = P.cellsOf t := by
  unfold Value.okWide at h
  rw [ht] at h
  obtain ⟨cs, h1, h2, _⟩ := h
  exact ⟨cs, h1, h2⟩

def fieldsOf (P : Program) (t : TypeId) : Option (List (Nat × TypeId)) :=
  match P.underlying t with
  | some (.struct fs) => some (fs.toList.map fun f => (f.offset, f.type))
  | _ => none

theorem fieldsOf_some {t : TypeId} {l : List (Nat × TypeId)} (h : fieldsOf P t = some l) : ∃ fs, P.underlying t = some (.struct fs) ∧ fs.toList.map (fun f => (f.offset, f.type)) = l := by
  unfold fieldsOf at h
  split at h
  · rename_i fs hfs
    exact ⟨fs, hfs, Option.some.inj h⟩
  · cases h

section
variable [Syms] {sp : Nat → Bool}

/-- Fields by their places and types. -/
def RdG {H : Type} (enc : TypeId × Value → H) (P : Program) (W : World) (sp : Nat → Bool) {α : Type} (off n : Nat) (ec : α → List AV) (fit : α → Prop) (l : List (Nat × TypeId)) : Prop :=
  ∀ fs : List Field, fs.map (fun f => (f.offset, f.type)) = l → RdF enc P W sp off n ec fit fs

theorem rdG_nil {off : Nat} : RdG enc P W sp off 0 (fun _ : Unit => []) (fun _ => True) [] := fun fs h => by
  obtain rfl : fs = [] := by simpa using h
  exact rdF_nil

theorem rdG_cons {α β : Type} {off n1 n2 : Nat} {e1 : α → List AV} {e2 : β → List AV} {p1 : α → Prop} {p2 : β → Prop} {t : TypeId} {l : List (Nat × TypeId)} (h1 : RdT enc P W sp n1 e1 p1 t) (h2 : RdG enc P W sp (off + n1) n2 e2 p2 l) :
    RdG enc P W sp off (n1 + n2) (fun y : α × β => e1 y.1 ++ e2 y.2) (fun y => p1 y.1 ∧ p2 y.2) ((off, t) :: l) := fun fs h => by
  cases fs with
  | nil => cases h
  | cons f fs =>
    rw [List.map_cons] at h
    injection h with h3 h4
    injection h3 with h5 h6
    subst h6
    exact rdF_cons h5 h1 (h2 fs h4)

theorem rd_fields {α : Type} {n : Nat} {ec : α → List AV} {fit : α → Prop} {t : TypeId} {l : List (Nat × TypeId)} (ht : fieldsOf P t = some l) (hc : P.cellsOf t = n) (h : RdG enc P W sp 0 n ec fit l) : RdT enc P W sp n ec fit t := by
  obtain ⟨fs, h1, h2⟩ := fieldsOf_some ht
  exact rd_struct h1 hc (h _ h2)

/-- A struct argument. -/
theorem rd_arg {base : Nat} {α : Type} {n : Nat} {ec : α → List AV} {fit : α → Prop} {t : TypeId} {l : List (Nat × TypeId)} (ht : fieldsOf P t = some l) (h : RdT enc P W sp n ec fit t) {v : Value} {d : DataW H} {ps : List MemPlace} (hv : DataW.Trod enc P W 0 sp true t v d ps) (hok : Value.okWide P W .any base t v) :
    ∃ y, VR (fun _ => True) W.heap noMap (.agg (ec y)) v ∧ fit y := by
  obtain ⟨fs, h1, _⟩ := fieldsOf_some ht
  exact rd_agg h hv (agg_of hok h1)

/-! ### The program's structs -/

theorem rd_spt {t tb ti : TypeId} {p1 p2 : Int → Prop} (ht : fieldsOf P t = some [(0, tb), (1, ti)]) (hc : P.cellsOf t = 2) (h1 : RdT enc P W sp 1 (fun n : Int => [.int .i64 n]) p1 tb) (h2 : RdT enc P W sp 1 (fun n : Int => [.int .i64 n]) p2 ti) :
    RdT enc P W sp 2 (fun c : Spt => [.int .i64 c.branch, .int .i64 c.ino]) (fun c => p1 c.branch ∧ p2 c.ino) t :=
  (rd_fields ht hc (rdG_cons h1 (rdG_cons h2 rdG_nil))).map (fun y => ⟨y.1, y.2.1⟩) (fun _ => rfl) (fun _ h => ⟨h.1, h.2.1⟩)
theorem rd_rwo {t ts tu : TypeId} {p1 : Spt → Prop} {p2 : Int → Prop} (ht : fieldsOf P t = some [(0, ts), (2, tu)]) (hc : P.cellsOf t = 3) (h1 : RdT enc P W sp 2 (fun c : Spt => [.int .i64 c.branch, .int .i64 c.ino]) p1 ts) (h2 : RdT enc P W sp 1 (fun n : Int => [.int .i64 n]) p2 tu) :
    RdT enc P W sp 3 (fun c : Rwo => [.int .i64 c.spot.branch, .int .i64 c.spot.ino, .int .i64 c.u]) (fun c => p1 c.spot ∧ p2 c.u) t :=
  (rd_fields ht hc (rdG_cons h1 (rdG_cons h2 rdG_nil))).map (fun y => ⟨y.1, y.2.1⟩) (fun _ => rfl) (fun _ h => ⟨h.1, h.2.1⟩)
theorem rd_tbl {t tn tr tc : TypeId} {p1 p3 : Int → Prop} {p2 : List Rwo → Prop} (ht : fieldsOf P t = some [(0, tn), (1, tr), (2, tr), (3, tc)]) (hc : P.cellsOf t = 4) (h1 : RdT enc P W sp 1 (fun n : Int => [.int .i64 n]) p1 tn) (h2 : RdT enc P W sp 1 (fun l : List Rwo => [.tl .row l]) p2 tr) (h3 : RdT enc P W sp 1 (fun n : Int => [.int .i64 n]) p3 tc) :
    RdT enc P W sp 4 (fun c : Tbl => [.int .i64 c.next, .tl .row c.rows, .tl .row c.homes, .int .i64 c.cursor]) (fun c => p1 c.next ∧ p2 c.rows ∧ p2 c.homes ∧ p3 c.cursor) t :=
  (rd_fields ht hc (rdG_cons h1 (rdG_cons h2 (rdG_cons h2 (rdG_cons h3 rdG_nil))))).map (fun y => ⟨y.1, y.2.1, y.2.2.1, y.2.2.2.1⟩) (fun _ => rfl) (fun _ h => ⟨h.1, h.2.1, h.2.2.1, h.2.2.2.1⟩)


theorem rd_cnf {t tw ti : TypeId} {p1 : List Int → Prop} {p2 : Int → Prop} (ht : fieldsOf P t = some [(0, tw), (1, ti)]) (hc : P.cellsOf t = 2) (h1 : RdT enc P W sp 1 (fun l : List Int => [.tl .int l]) p1 tw) (h2 : RdT enc P W sp 1 (fun n : Int => [.int .i64 n]) p2 ti) :
    RdT enc P W sp 2 (fun c : Cnf => [.tl .int c.ways, .int .i64 c.policy]) (fun c => p1 c.ways ∧ p2 c.policy) t :=
  (rd_fields ht hc (rdG_cons h1 (rdG_cons h2 rdG_nil))).map (fun y => ⟨y.1, y.2.1⟩) (fun _ => rfl) (fun _ h => ⟨h.1, h.2.1⟩)

end
end
end Go.Proofs.Ytmkmjjodiicmlaa.VS

/- Loops and rows in plain words. Conditions: none. -/
namespace Go.Proofs.Ytmkmjjodiicmlaa.VS
set_option linter.unusedVariables false
set_option linter.unusedSimpArgs false

/-! ### One step -/

theorem run_req {ρ : Type} {c : Prop} {a : T ρ} (h : c) : (T.req c a).run = a.run := by simp [T.run, h]
theorem run_iteT {ρ : Type} {c : Bool} {a b : T ρ} (h : c = true) : (T.ite c a b).run = a.run := by simp [T.run, h]
theorem run_iteF {ρ : Type} {c : Bool} {a b : T ρ} (h : c = false) : (T.ite c a b).run = b.run := by simp [T.run, h]
theorem run_iteB {ρ : Type} {c : Bool} {a b : T ρ} : (T.ite c a b).run = if c = true then a.run else b.run := by simp [T.run]
theorem run_same {ρ α : Type} {x : α} {a : T ρ} : (T.same x a).run = a.run := rfl
theorem run_ret {ρ : Type} {x : ρ} : (T.ret x).run = some x := rfl
theorem run_bind {ρ α : Type} {o : Option α} {f : α → T ρ} {x : α} (h : o = some x) : (T.bind o f).run = (f x).run := by subst h; rfl
theorem run_caseL {ρ α β : Type} {x : α} {f : α → T ρ} {g : β → T ρ} : (T.case (.inl x) f g).run = (f x).run := rfl
theorem run_caseR {ρ α β : Type} {x : β} {f : α → T ρ} {g : β → T ρ} : (T.case (.inr x) f g).run = (g x).run := rfl

theorem getD_at {α : Type} {l : List α} {i : Nat} {z : α} (h : i < l.length) : l.getD i z = l[i] := by simp [h]
theorem getD_int {α : Type} {l : List α} {i : Nat} {z : α} (h : i < l.length) : l.getD ((i : Int).toNat) z = l[i] := by simp [h]

theorem wr {n : Int} (h1 : -9223372036854775808 ≤ n) (h2 : n ≤ 9223372036854775807) : IntKind.i64.wrap n = n := wrap64 h1 h2
theorem wrS {i : Nat} (h : i ≤ 4611686018427387904) : IntKind.i64.wrap ((i : Int) + 1) = ((i + 1 : Nat) : Int) := by rw [wr (by omega) (by omega)]; rfl
theorem wrP {i : Nat} (h0 : 0 < i) (h : i ≤ 4611686018427387904) : IntKind.i64.wrap ((i : Int) - 1) = ((i - 1 : Nat) : Int) := by rw [wr (by omega) (by omega)]; omega

theorem inb {i n : Nat} (h : i < n) : (0 : Int) ≤ (i : Int) ∧ (i : Int) < (n : Int) := by omega

/-- Far from what the machine bears. -/
def SM : Nat := 4194304
theorem rmM {n b : Nat} (h : n ≤ SM) (hb : b ≤ 4096) : roomP n b := by
  unfold roomP
  have : n * (b + 1) ≤ 4194304 * 4097 := Nat.mul_le_mul h (by omega)
  omega

/-! ### Loops -/

/-- A loop that goes on so many rounds, then out. -/
theorem loop_to {π ρ : Type} {t : π → T (π ⊕ ρ)} (st : Nat → π) (n : Nat) {out : ρ} (hs : ∀ i, i < n → (t (st i)).run = some (.inl (st (i + 1)))) (he : (t (st n)).run = some (.inr out)) : fixT t (st 0) = some out := by
  have : ∀ k i, i + k = n → fixT t (st i) = some out := by
    intro k
    induction k with
    | zero => intro i h; obtain rfl : i = n := by omega
              exact fixT_out he
    | succ k ih => intro i h; exact (fixT_next (hs i (by omega))).trans (ih (i + 1) (by omega))
  exact this n 0 (by omega)

/-- A loop that ends, whatever it answers: an invariant. -/
theorem loop_inv {π ρ : Type} {t : π → T (π ⊕ ρ)} (I : Nat → π → Prop) (R : ρ → Prop) (n : Nat) (hs : ∀ i p, i < n → I i p → (∃ q, (t p).run = some (.inl q) ∧ I (i + 1) q) ∨ (∃ r, (t p).run = some (.inr r) ∧ R r)) (he : ∀ p, I n p → ∃ r, (t p).run = some (.inr r) ∧ R r) {p : π} (h0 : I 0 p) :
    ∃ r, fixT t p = some r ∧ R r := by
  have : ∀ k i p, i + k = n → I i p → ∃ r, fixT t p = some r ∧ R r := by
    intro k
    induction k with
    | zero =>
      intro i p h hI
      obtain rfl : i = n := by omega
      obtain ⟨r, h1, h2⟩ := he p hI
      exact ⟨r, fixT_out h1, h2⟩
    | succ k ih =>
      intro i p h hI
      rcases hs i p (by omega) hI with ⟨q, h1, h2⟩ | ⟨r, h1, h2⟩
      · obtain ⟨r, h3, h4⟩ := ih (i + 1) q (by omega) h2
        exact ⟨r, (fixT_next h1).trans h3, h4⟩
      · exact ⟨r, fixT_out h1, h2⟩
  exact this n 0 p (by omega) h0

/-- A loop that asks something of each place. -/
theorem loop_all {π ρ : Type} {t : π → T (π ⊕ ρ)} (n : Nat) (ok : Nat → Prop) (st : Nat → π) (no yes : ρ)
    (hs : ∀ i, i < n → (∀ j, j < i → ok j) → (ok i ∧ (t (st i)).run = some (.inl (st (i + 1)))) ∨ (¬ ok i ∧ (t (st i)).run = some (.inr no))) (he : (∀ j, j < n → ok j) → (t (st n)).run = some (.inr yes)) :
    ((∀ i, i < n → ok i) ∧ fixT t (st 0) = some yes) ∨ ((¬ ∀ i, i < n → ok i) ∧ fixT t (st 0) = some no) := by
  have : ∀ k i, i + k = n → (∀ j, j < i → ok j) → ((∀ i, i < n → ok i) ∧ fixT t (st i) = some yes) ∨ ((¬ ∀ i, i < n → ok i) ∧ fixT t (st i) = some no) := by
    intro k
    induction k with
    | zero =>
      intro i h hb
      obtain rfl : i = n := by omega
      exact .inl ⟨hb, fixT_out (he hb)⟩
    | succ k ih =>
      intro i h hb
      rcases hs i (by omega) hb with ⟨h1, h2⟩ | ⟨h1, h2⟩
      · have := ih (i + 1) (by omega) fun j hj => by
          by_cases e : j = i
          · subst e; exact h1
          · exact hb j (by omega)
        rw [fixT_next h2]; exact this
      · exact .inr ⟨fun h => h1 (h i (by omega)), fixT_out h2⟩
  exact this n 0 (by omega) fun j hj => by omega

/-- A loop over the elements, out at the first that is such. -/
theorem loop_find {α π ρ : Type} {t : π → T (π ⊕ ρ)} (l : List α) (p : α → Bool) (st : Nat → π) (yes : Nat → α → ρ) (no : ρ)
    (hs : ∀ i (h : i < l.length), p l[i] = false → (∀ j (hj : j < i), p l[j] = false) → (t (st i)).run = some (.inl (st (i + 1)))) (hy : ∀ i (h : i < l.length), p l[i] = true → (∀ j (hj : j < i), p l[j] = false) → (t (st i)).run = some (.inr (yes i l[i])))
    (he : (∀ j (hj : j < l.length), p l[j] = false) → (t (st l.length)).run = some (.inr no)) :
    fixT t (st 0) = some (match l.findIdx? p, l.find? p with | some i, some x => yes i x | _, _ => no) := by
  have : ∀ k i, i + k = l.length → (∀ j (hj : j < i) (h : j < l.length), p l[j] = false) → fixT t (st i) = some (match (l.drop i).findIdx? p, (l.drop i).find? p with | some j, some x => yes (i + j) x | _, _ => no) := by
    intro k
    induction k with
    | zero =>
      intro i h hb
      obtain rfl : i = l.length := by omega
      rw [List.drop_length]
      exact fixT_out (he fun j hj => hb j hj hj)
    | succ k ih =>
      intro i h hb
      have hi : i < l.length := by omega
      rw [List.drop_eq_getElem_cons hi]
      cases hp : p l[i] with
      | true =>
        simp only [List.findIdx?_cons, List.find?_cons, hp, if_true]
        exact fixT_out (hy i hi hp fun j hj => hb j hj (by omega))
      | false =>
        refine (fixT_next (hs i hi hp fun j hj => hb j hj (by omega))).trans ((ih (i + 1) (by omega) ?_).trans ?_)
        · intro j hj hjl
          by_cases e : j = i
          · subst e; exact hp
          · exact hb j (by omega) hjl
        · simp only [List.findIdx?_cons, List.find?_cons, hp, Bool.false_eq_true, if_false]
          cases h1 : (l.drop (i + 1)).findIdx? p <;> cases h2 : (l.drop (i + 1)).find? p <;> simp [h1, h2]
          congr 1; omega
  have h := this l.length 0 (by omega) (fun j hj => by omega)
  simpa using h

/-- A loop that gathers. -/
theorem loop_fold {α β π ρ : Type} {t : π → T (π ⊕ ρ)} (l : List α) (st : β → Nat → π) (f : β → α → β) (z : β) {out : β → ρ}
    (hs : ∀ i (h : i < l.length), (t (st ((l.take i).foldl f z) i)).run = some (.inl (st (f ((l.take i).foldl f z) l[i]) (i + 1)))) (he : (t (st (l.foldl f z) l.length)).run = some (.inr (out (l.foldl f z)))) : fixT t (st z 0) = some (out (l.foldl f z)) := by
  refine loop_to (fun i => st ((l.take i).foldl f z) i) l.length (fun i hi => ?_) (by simpa using he)
  have : (l.take (i + 1)).foldl f z = f ((l.take i).foldl f z) l[i] := by
    rw [List.take_add_one, List.getElem?_eq_getElem hi, List.foldl_append]; simp
  simp only [this]
  exact hs i hi

/-- Halving. -/
theorem halve (a b : Nat) (h : a + b ≤ 4611686018427387904) : IntKind.i64.wrap ((IntKind.u64.wrap (IntKind.i64.wrap ((a : Int) + (b : Int)))).fdiv ((2 : Int) ^ min (Int.toNat (1 : Int)) IntKind.u64.bits)) = (((a + b) / 2 : Nat) : Int) := by
  have h0 : IntKind.i64.wrap ((a : Int) + (b : Int)) = (a : Int) + b := wr (by omega) (by omega)
  have h1 : IntKind.u64.wrap ((a : Int) + (b : Int)) = (a : Int) + b := by
    have hb : (2 : Int) ^ IntKind.u64.bits = 18446744073709551616 := by decide
    have hs : IntKind.u64.signed = false := rfl
    unfold IntKind.wrap
    simp only [hb, hs, Bool.false_and, Bool.false_eq_true, if_false]
    omega
  have h2 : min (Int.toNat (1 : Int)) IntKind.u64.bits = 1 := by decide
  rw [h0, h1, h2, Int.fdiv_eq_ediv_of_nonneg _ (by decide), wr (by omega) (by omega)]
  omega

/-- A search by halves: the first place from which on it is not before. -/
theorem bsearch {π ρ : Type} {t : π → T (π ⊕ ρ)} (n : Nat) (hn : n ≤ SM) (st : Nat → Nat → π) (out : Nat → ρ) (p : Nat → Bool) (hmono : ∀ a b, a ≤ b → b < n → p b = true → p a = true)
    (hs : ∀ i j, i < j → j ≤ n → (t (st i j)).run = some (.inl (bif p ((i + j) / 2) then st ((i + j) / 2 + 1) j else st i ((i + j) / 2)))) (he : ∀ i, i ≤ n → (t (st i i)).run = some (.inr (out i))) :
    ∃ k, k ≤ n ∧ (∀ h, h < k → p h = true) ∧ (∀ h, k ≤ h → h < n → p h = false) ∧ fixT t (st 0 n) = some (out k) := by
  have : ∀ m i j, j - i ≤ m → i ≤ j → j ≤ n → (∀ h, h < i → p h = true) → (∀ h, j ≤ h → h < n → p h = false) → ∃ k, k ≤ n ∧ (∀ h, h < k → p h = true) ∧ (∀ h, k ≤ h → h < n → p h = false) ∧ fixT t (st i j) = some (out k) := by
    intro m
    induction m with
    | zero =>
      intro i j h1 h2 h3 h4 h5
      obtain rfl : i = j := by omega
      exact ⟨i, h3, h4, h5, fixT_out (he i h3)⟩
    | succ m ih =>
      intro i j h1 h2 h3 h4 h5
      by_cases hij : i = j
      · subst hij; exact ⟨i, h3, h4, h5, fixT_out (he i h3)⟩
      · have hlt : i < j := by omega
        have h := hs i j hlt h3
        cases hp : p ((i + j) / 2) with
        | true =>
          rw [hp, cond_true] at h
          obtain ⟨k, k1, k2, k3, k4⟩ := ih ((i + j) / 2 + 1) j (by omega) (by omega) h3 (fun q hq => hmono q ((i + j) / 2) (by omega) (by omega) hp) h5
          exact ⟨k, k1, k2, k3, (fixT_next h).trans k4⟩
        | false =>
          rw [hp, cond_false] at h
          obtain ⟨k, k1, k2, k3, k4⟩ := ih i ((i + j) / 2) (by omega) (by omega) (by omega) h4 (fun q hq hqn => by
            cases hq2 : p q with
            | false => rfl
            | true => rw [hmono _ _ hq hqn hq2] at hp; cases hp)
          exact ⟨k, k1, k2, k3, (fixT_next h).trans k4⟩
  exact this n 0 n (by omega) (by omega) (Nat.le_refl _) (fun h hh => by omega) (fun h h1 h2 => by omega)

/-! ### Functions that call themselves -/

def Le {α : Type} (o o' : Option α) : Prop := ∀ x, o = some x → o' = some x
theorem Le.refl {α : Type} (o : Option α) : Le o o := fun _ h => h
theorem Le.trans {α : Type} {a b c : Option α} (h : Le a b) (k : Le b c) : Le a c := fun x hx => k x (h x hx)
section
variable {ρ : Type}
theorem le_bind {α : Type} {o o' : Option α} {f f' : α → T ρ} (h : Le o o') (k : ∀ x, Le (f x).run (f' x).run) : Le (T.bind o f).run (T.bind o' f').run := fun r hr => by
  cases o with
  | none => cases hr
  | some x => rw [run_bind (h x rfl)]; exact k x r hr
theorem le_ite {c : Bool} {a a' b b' : T ρ} (h : Le a.run a'.run) (k : Le b.run b'.run) : Le (T.ite c a b).run (T.ite c a' b').run := by
  cases c with
  | true => rw [run_iteT rfl, run_iteT rfl]; exact h
  | false => rw [run_iteF rfl, run_iteF rfl]; exact k
theorem le_iteP {c : Prop} {a a' b b' : T ρ} (h : Le a.run a'.run) (k : Le b.run b'.run) : Le (T.iteP c a b).run (T.iteP c a' b').run := by
  intro x hx
  simp only [T.run] at hx ⊢
  split at hx
  · rename_i hc; rw [if_pos hc]; exact h x hx
  · rename_i hc; rw [if_neg hc]; exact k x hx
theorem le_req {c : Prop} {a a' : T ρ} (h : Le a.run a'.run) : Le (T.req c a).run (T.req c a').run := by
  intro x hx
  simp only [T.run] at hx ⊢
  split at hx
  · rename_i hc; rw [if_pos hc]; exact h x hx
  · cases hx
theorem le_same {α : Type} {y : α} {a a' : T ρ} (h : Le a.run a'.run) : Le (T.same y a).run (T.same y a').run := h
theorem le_case {α β : Type} {r : α ⊕ β} {f f' : α → T ρ} {g g' : β → T ρ} (h : ∀ x, Le (f x).run (f' x).run) (k : ∀ x, Le (g x).run (g' x).run) : Le (T.case r f g).run (T.case r f' g').run := by
  cases r with
  | inl x => exact h x
  | inr x => exact k x
theorem le_fix {π : Type} {t t' : π → T (π ⊕ ρ)} (h : ∀ p, Le (t p).run (t' p).run) (p : π) : Le (fixT t p) (fixT t' p) := by
  have key : ∀ n p r, iterT t n p = some r → fixT t' p = some r := by
    intro n
    induction n with
    | zero => intro p r h; cases h
    | succ n ih =>
      intro p r hr
      rw [iterT] at hr
      split at hr
      · cases hr
      · rename_i q hq; exact (fixT_next (h p _ hq)).trans (ih _ _ hr)
      · rename_i q hq; cases hr; exact fixT_out (h p _ hq)
  intro r hr
  unfold fixT at hr
  split at hr
  · rename_i hx
    cases hr
    obtain ⟨n, hn⟩ := hx.choose_spec
    exact key n p _ hn
  · cases hr
end

def MonoR {α ρ : Type} (Φ : (α → Option ρ) → α → Option ρ) : Prop := ∀ s s' : α → Option ρ, (∀ x, Le (s x) (s' x)) → ∀ x, Le (Φ s x) (Φ s' x)

theorem recN_mono {α ρ : Type} {Φ : (α → Option ρ) → α → Option ρ} (hm : MonoR Φ) : ∀ n m, n ≤ m → ∀ x, Le (recN Φ n x) (recN Φ m x) := by
  intro n
  induction n with
  | zero => intro m _ x r h; cases h
  | succ n ih =>
    intro m h x
    obtain ⟨m, rfl⟩ : ∃ k, m = k + 1 := ⟨m - 1, by omega⟩
    exact hm _ _ (ih m (by omega)) x

theorem recT_some {α ρ : Type} {Φ : (α → Option ρ) → α → Option ρ} (hm : MonoR Φ) {n : Nat} {x : α} {r : ρ} (h : recN Φ n x = some r) : recT Φ x = some r := by
  refine recT_of (n := n) (fun m hn => recN_mono hm n m hn x r h) fun m s hs hlt => ?_
  have := recN_mono hm m n (Nat.le_of_lt hlt) x s hs
  rw [h] at this
  exact (Option.some.inj this).symm

/-! ### Rows of elements that differ -/

theorem len_of_nodup {α : Type} [DecidableEq α] : ∀ {l m : List α}, l.Nodup → (∀ x ∈ l, x ∈ m) → l.length ≤ m.length
  | [], m, _, _ => Nat.zero_le _
  | a :: l, m, hn, hs => by
    have ha : a ∈ m := hs a List.mem_cons_self
    have hn' := List.nodup_cons.1 hn
    have h1 : ∀ x ∈ l, x ∈ m.erase a := fun x hx => (List.mem_erase_of_ne (fun e => by subst e; exact hn'.1 hx)).2 (hs x (List.mem_cons_of_mem _ hx))
    have h2 := len_of_nodup hn'.2 h1
    have h3 := List.length_erase_of_mem ha
    have : 0 < m.length := List.length_pos_of_mem ha
    simp only [List.length_cons]
    omega

/-! ### Texts in order -/

theorem bl_irrefl : ∀ a : List UInt8, bytesLt a a = false
  | [] => rfl
  | a :: x => by simp [bytesLt, bl_irrefl x]
theorem bl_trans : ∀ {a b c : List UInt8}, bytesLt a b = true → bytesLt b c = true → bytesLt a c = true
  | a, [], _, h, _ => by cases a <;> simp [bytesLt] at h
  | _, _ :: _, [], _, h => by simp [bytesLt] at h
  | [], _ :: _, _ :: _, _, _ => by simp [bytesLt]
  | a :: x, b :: y, c :: z, h, k => by
    simp only [bytesLt, Bool.or_eq_true, decide_eq_true_eq, Bool.and_eq_true, beq_iff_eq] at h k ⊢
    rcases h with h | ⟨h1, h2⟩
    · rcases k with k | ⟨k1, k2⟩
      · exact .inl (UInt8.lt_trans h k)
      · subst k1; exact .inl h
    · subst h1
      rcases k with k | ⟨k1, k2⟩
      · exact .inl k
      · exact .inr ⟨k1, bl_trans h2 k2⟩
theorem bl_total : ∀ a b : List UInt8, bytesLt a b = true ∨ a = b ∨ bytesLt b a = true
  | [], [] => .inr (.inl rfl)
  | [], _ :: _ => .inl (by simp [bytesLt])
  | _ :: _, [] => .inr (.inr (by simp [bytesLt]))
  | a :: x, b :: y => by
    simp only [bytesLt, Bool.or_eq_true, decide_eq_true_eq, Bool.and_eq_true, beq_iff_eq]
    rcases Nat.lt_trichotomy a.toNat b.toNat with h | h | h
    · exact .inl (.inl (UInt8.lt_iff_toNat_lt.2 h))
    · have e : a = b := UInt8.toNat_inj.1 h
      subst e
      rcases bl_total x y with k | k | k
      · exact .inl (.inr ⟨rfl, k⟩)
      · subst k; exact .inr (.inl rfl)
      · exact .inr (.inr (.inr ⟨rfl, k⟩))
    · exact .inr (.inr (.inl (UInt8.lt_iff_toNat_lt.2 h)))
theorem bl_asymm {a b : List UInt8} (h : bytesLt a b = true) : bytesLt b a = false := by
  cases k : bytesLt b a with
  | false => rfl
  | true => have := bl_trans h k; rw [bl_irrefl] at this; cases this
theorem bl_not {a b : List UInt8} : (bytesLt a b || a == b) = false ↔ bytesLt b a = true := by
  constructor
  · intro h
    simp only [Bool.or_eq_false_iff, beq_eq_false_iff_ne] at h
    rcases bl_total a b with k | k | k
    · rw [h.1] at k; cases k
    · exact absurd k h.2
    · exact k
  · intro h
    simp only [Bool.or_eq_false_iff, beq_eq_false_iff_ne]
    refine ⟨bl_asymm h, ?_⟩
    rintro rfl
    rw [bl_irrefl] at h; cases h

theorem e_clone {α : Type} {b : Nat} {l : List α} (h : l.length ≤ SM) (hb : b ≤ 4096) : fClone b l = some l := by
  unfold fClone
  rw [if_pos (rmM h hb)]

/-! ### Rows in order -/

/-- Each is before those behind it. -/
def Sorted {α : Type} (lt : α → α → Prop) (l : List α) : Prop := ∀ i j (h : i < j) (hj : j < l.length), lt (l[i]'(by omega)) l[j]

theorem sorted_of {α : Type} {lt : α → α → Prop} (ht : ∀ {a b c}, lt a b → lt b c → lt a c) {l : List α} (h : ∀ i (hi : i + 1 < l.length), lt (l[i]'(by omega)) l[i + 1]) : Sorted lt l := by
  intro i j hij hj
  induction j with
  | zero => omega
  | succ j ih =>
    by_cases e : i = j
    · subst e; exact h i hj
    · exact ht (ih (by omega) (by omega)) (h j hj)

end Go.Proofs.Ytmkmjjodiicmlaa.VS

