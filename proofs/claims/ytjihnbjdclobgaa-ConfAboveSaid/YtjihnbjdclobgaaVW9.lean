/- Helps for contracts: loops by their parameters, contracts by their arguments, values that tell values, numbers. Conditions: none. -/
import Derived.Test.YtjihnbjdclobgaaVW8
namespace Go.Proofs.Ytjihnbjdclobgaa.VS

/-- A loop told by parameters: the slots, the heap, and how it is left. -/
def mkLoop {π : Type} (live out : List (Nat × HK)) (V : π → List AV) (Hp : π → Heap) (res : π → (AX → List AV → Heap → Prop) → Prop) : LoopC :=
  ⟨live, out, fun vals H k => ∃ p, vals = V p ∧ H = Hp p ∧ res p k⟩

def loopAt (fn : Func) (k : Nat) : Code := ((fn.body.map loopsOf).getD []).getD k .skip

section
variable [Syms] {P : Program} {S : SE}

theorem loop_mk (hT : TyOK P S.T) (hC : ConOK P S) (hmx : P.follows .mixedOrders = true) {n : Nat} {b : Code} (hn : n.ble 1023 = true) (hc : codeOk n b = true) (hdr : drawsOk b = true) (hl : LoopsOK P S n b) {π : Type} {live out : List (Nat × HK)} {V : π → List AV} {Hp : π → Heap} {res : π → (AX → List AV → Heap → Prop) → Prop} (μ : π → Nat)
    (step : ∀ p K, res p K → roundC S (mkLoop live out V Hp res) b (V p) (Hp p) (fun vals' H' => ∃ p', μ p' < μ p ∧ vals' = V p' ∧ H' = Hp p' ∧ res p' K) K) : LoopOK P n (mkLoop live out V Hp res) b :=
  loop_ok hT hC hmx (ble_le hn) hc hdr hl (fun N vals H K => ∃ p, μ p = N ∧ vals = V p ∧ H = Hp p ∧ res p K) (fun vals H K ⟨p, h1, h2, h3⟩ => ⟨μ p, p, rfl, h1, h2, h3⟩)
    (fun N vals H K ⟨p, h0, h1, h2, h3⟩ => by
      subst h0; subst h1; subst h2
      have := step p K h3
      have e : (fun vals' H' => ∃ p', μ p' < μ p ∧ vals' = V p' ∧ H' = Hp p' ∧ res p' K) = (fun vals' H' => ∃ N', N' < μ p ∧ ∃ q, μ q = N' ∧ vals' = V q ∧ H' = Hp q ∧ res q K) := by
        funext vals' H'
        apply propext
        constructor
        · rintro ⟨q, h1, h2⟩; exact ⟨_, h1, q, rfl, h2⟩
        · rintro ⟨_, h1, q, rfl, h2⟩; exact ⟨q, h1, h2⟩
      rw [e] at this
      exact this)

theorem loops_nil {n : Nat} {code : Code} (h : (loopsOf code).length.beq 0 = true) : LoopsOK P S n code := fun b hb => by
  have : loopsOf code = [] := List.length_eq_zero_iff.1 (beq_eq' h)
  rw [this] at hb; cases hb

/-- The loops of a function, each known. -/
def LoopsIn (P : Program) (S : SE) (n : Nat) : List Code → Prop
  | [] => True
  | b :: r => (∀ lc, S.loop (keyOf b) = some lc → LoopOK P n lc b) ∧ LoopsIn P S n r

theorem loopsIn_ok {n : Nat} : ∀ {l : List Code}, LoopsIn P S n l → ∀ b ∈ l, ∀ lc, S.loop (keyOf b) = some lc → LoopOK P n lc b
  | b :: r, h, b', hb, lc, hlc => by
    rcases List.mem_cons.1 hb with rfl | hb
    · exact h.1 lc hlc
    · exact loopsIn_ok h.2 b' hb lc hlc

/-- A function without loops. -/
theorem con_fun (hT : TyOK P S.T) (hC : ConOK P S) (hmx : P.follows .mixedOrders = true) {f : FuncId} {fn : Func} (hf : FnOne P f fn) (hl : ((fn.body.map loopsOf).getD []).length.beq 0 = true) {g : List AV → Option Con}
    (h : ∀ args c, g args = some c → c.pre → c.H = [] ∧ ∃ args', CLe args args' ∧ funC S fn args' fun y => VLe y c.v) : ConOne P f g :=
  conOne_calls hT hC hmx hf (fun code hb => loops_nil (by rw [hb] at hl; exact hl)) h

/-- A function whose loops are known. -/
theorem con_loops (hT : TyOK P S.T) (hC : ConOK P S) (hmx : P.follows .mixedOrders = true) {f : FuncId} {fn : Func} (hf : FnOne P f fn) (hl : LoopsIn P S fn.ntmps ((fn.body.map loopsOf).getD [])) {g : List AV → Option Con}
    (h : ∀ args c, g args = some c → c.pre → c.H = [] ∧ ∃ args', CLe args args' ∧ funC S fn args' fun y => VLe y c.v) : ConOne P f g :=
  conOne_calls hT hC hmx hf (fun code hb => by rw [hb] at hl; exact loopsIn_ok hl) h

/-! ### Contracts by their arguments -/

structure Arg (α : Type) where
  dec : AV → Option α
  enc : α → AV

def Arg.ok {α : Type} (A : Arg α) : Prop := ∀ a x, A.dec a = some x → VLe a (A.enc x)

end

def aG (g : GT) : Arg g.T := ⟨dec g, enc g⟩
def aL (g : GT) : Arg (List g.T) := ⟨decL g, .tl g⟩
def aInt : Arg Int := ⟨decInt, .int .i64⟩
def aStr : Arg Str := ⟨decStr, .str⟩
def aBool : Arg Bool := ⟨decBool, .ub⟩
def aFil : Arg Fil := ⟨decFil, encFil⟩
def aCnf : Arg Cnf := ⟨decCnf, encCnf⟩
def aTbl : Arg Tbl := ⟨decTbl, encTbl⟩
def aWld : Arg Wld := ⟨decWld, encWld⟩
/-- A function value that is known. -/
def aFn (f : FuncId) : Arg Unit := ⟨fun a => match a with
  | .fn g [] => bif g.beq f then some () else none
  | _ => none, fun _ => .fn f []⟩
def aByte : Arg UInt8 := ⟨byteOf, fun b => .int .u8 b.toNat⟩

def con0 (pre : Prop) (v : AV) : List AV → Option Con
  | [] => some ⟨pre, v, []⟩
  | _ => none
def con1 {α : Type} (A : Arg α) (pre : α → Prop) (v : α → AV) : List AV → Option Con
  | [a] => match A.dec a with
    | some x => some ⟨pre x, v x, []⟩
    | none => none
  | _ => none
def con2 {α β : Type} (A : Arg α) (B : Arg β) (pre : α → β → Prop) (v : α → β → AV) : List AV → Option Con
  | [a, b] => match A.dec a, B.dec b with
    | some x, some y => some ⟨pre x y, v x y, []⟩
    | _, _ => none
  | _ => none
def con3 {α β γ : Type} (A : Arg α) (B : Arg β) (C : Arg γ) (pre : α → β → γ → Prop) (v : α → β → γ → AV) : List AV → Option Con
  | [a, b, c] => match A.dec a, B.dec b, C.dec c with
    | some x, some y, some z => some ⟨pre x y z, v x y z, []⟩
    | _, _, _ => none
  | _ => none
def con4 {α β γ δ : Type} (A : Arg α) (B : Arg β) (C : Arg γ) (D : Arg δ) (pre : α → β → γ → δ → Prop) (v : α → β → γ → δ → AV) : List AV → Option Con
  | [a, b, c, d] => match A.dec a, B.dec b, C.dec c, D.dec d with
    | some x, some y, some z, some u => some ⟨pre x y z u, v x y z u, []⟩
    | _, _, _, _ => none
  | _ => none

section
variable [Syms]

theorem aG_ok (g : GT) : (aG g).ok := fun a x h => (dec_dec g a x h).le
theorem aL_ok (g : GT) : (aL g).ok := fun _ _ h => decL_le h
theorem aInt_ok : aInt.ok := fun _ _ h => (decInt_dec h).le
theorem aStr_ok : aStr.ok := fun _ _ h => (decStr_dec h).le
theorem aBool_ok : aBool.ok := fun _ _ h => (decBool_dec h).le
theorem aByte_ok : aByte.ok := fun _ _ h => (byteOf_dec h).le
theorem aFn_ok (f : FuncId) : (aFn f).ok := fun _ _ h => by
  simp only [aFn] at h ⊢
  split at h
  · rename_i g
    cases hg : g.beq f with
    | true => rw [beq_eq' hg]; exact .refl _
    | false => rw [hg] at h; cases h
  · cases h
theorem aFil_ok : aFil.ok := fun a x h => by
  change decFil a = some x at h
  show VLe a (encFil x)
  unfold decFil at h
  split at h
  · split at h
    · rename_i l hl
      cases h
      exact .agg (.cons (.refl _) (.cons (decL_le (g := .blk) hl) .nil))
    · cases h
  · cases h
theorem aCnf_ok : aCnf.ok := fun a x h => by
  change decCnf a = some x at h
  show VLe a (encCnf x)
  unfold decCnf at h
  split at h
  · split at h
    · rename_i l hl
      cases h
      exact .agg (.cons (decL_le (g := .int) hl) (.cons (.refl _) .nil))
    · cases h
  · cases h
theorem aTbl_ok : aTbl.ok := fun a x h => by
  change decTbl a = some x at h
  show VLe a (encTbl x)
  unfold decTbl at h
  split at h
  · split at h
    · rename_i r l hr hl
      cases h
      exact .agg (.cons (.refl _) (.cons (decL_le (g := .row) hr) (.cons (decL_le (g := .row) hl) (.cons (.refl _) .nil))))
    · cases h
  · cases h
theorem aWld_ok : aWld.ok := fun a x h => by
  change decWld a = some x at h
  show VLe a (encWld x)
  unfold decWld at h
  split at h
  · split at h
    · rename_i h1 h2 h3 h4
      cases h
      exact .agg (.cons (decL_le (g := .int) h1) (.cons (.refl _) (.cons (decL_le (g := .dsk) h2) (.cons (.refl _) (.cons (decL_le (g := .row) h3) (.cons (decL_le (g := .row) h4) (.cons (.refl _) .nil)))))))
    · cases h
  · cases h

variable {S : SE} {fn : Func}

theorem con0_ok {pre : Prop} {v : AV} (h : pre → funC S fn [] fun y => VLe y v) : ∀ args c, con0 pre v args = some c → c.pre → c.H = [] ∧ ∃ args', CLe args args' ∧ funC S fn args' fun y => VLe y c.v := by
  intro args c hc hp
  unfold con0 at hc
  split at hc
  · cases hc; exact ⟨rfl, _, .nil, h hp⟩
  · cases hc
theorem con1_ok {α : Type} {A : Arg α} {pre : α → Prop} {v : α → AV} (hA : A.ok) (h : ∀ x, pre x → funC S fn [A.enc x] fun y => VLe y (v x)) : ∀ args c, con1 A pre v args = some c → c.pre → c.H = [] ∧ ∃ args', CLe args args' ∧ funC S fn args' fun y => VLe y c.v := by
  intro args c hc hp
  unfold con1 at hc
  split at hc
  · split at hc
    · rename_i x hx
      cases hc; exact ⟨rfl, _, .cons (hA _ _ hx) .nil, h x hp⟩
    · cases hc
  · cases hc
theorem con2_ok {α β : Type} {A : Arg α} {B : Arg β} {pre : α → β → Prop} {v : α → β → AV} (hA : A.ok) (hB : B.ok) (h : ∀ x y, pre x y → funC S fn [A.enc x, B.enc y] fun r => VLe r (v x y)) : ∀ args c, con2 A B pre v args = some c → c.pre → c.H = [] ∧ ∃ args', CLe args args' ∧ funC S fn args' fun y => VLe y c.v := by
  intro args c hc hp
  unfold con2 at hc
  split at hc
  · split at hc
    · rename_i x y hx hy
      cases hc; exact ⟨rfl, _, .cons (hA _ _ hx) (.cons (hB _ _ hy) .nil), h x y hp⟩
    · cases hc
  · cases hc
theorem con3_ok {α β γ : Type} {A : Arg α} {B : Arg β} {C : Arg γ} {pre : α → β → γ → Prop} {v : α → β → γ → AV} (hA : A.ok) (hB : B.ok) (hC : C.ok) (h : ∀ x y z, pre x y z → funC S fn [A.enc x, B.enc y, C.enc z] fun r => VLe r (v x y z)) : ∀ args c, con3 A B C pre v args = some c → c.pre → c.H = [] ∧ ∃ args', CLe args args' ∧ funC S fn args' fun y => VLe y c.v := by
  intro args c hc hp
  unfold con3 at hc
  split at hc
  · split at hc
    · rename_i x y z hx hy hz
      cases hc; exact ⟨rfl, _, .cons (hA _ _ hx) (.cons (hB _ _ hy) (.cons (hC _ _ hz) .nil)), h x y z hp⟩
    · cases hc
  · cases hc
theorem con4_ok {α β γ δ : Type} {A : Arg α} {B : Arg β} {C : Arg γ} {D : Arg δ} {pre : α → β → γ → δ → Prop} {v : α → β → γ → δ → AV} (hA : A.ok) (hB : B.ok) (hC : C.ok) (hD : D.ok) (h : ∀ x y z u, pre x y z u → funC S fn [A.enc x, B.enc y, C.enc z, D.enc u] fun r => VLe r (v x y z u)) : ∀ args c, con4 A B C D pre v args = some c → c.pre → c.H = [] ∧ ∃ args', CLe args args' ∧ funC S fn args' fun y => VLe y c.v := by
  intro args c hc hp
  unfold con4 at hc
  split at hc
  · split at hc
    · rename_i x y z u hx hy hz hu
      cases hc; exact ⟨rfl, _, .cons (hA _ _ hx) (.cons (hB _ _ hy) (.cons (hC _ _ hz) (.cons (hD _ _ hu) .nil))), h x y z u hp⟩
    · cases hc
  · cases hc

/-! ### Values that tell values -/

theorem VLe.of_eq {a b : AV} (h : a = b) : VLe a b := h ▸ .refl a
theorem VLe.int {k : IntKind} {a b : Int} (h : a = b) : VLe (.int k a) (.int k b) := h ▸ .refl _
theorem VLe.str {a b : List UInt8} (h : a = b) : VLe (.str a) (.str b) := h ▸ .refl _
theorem VLe.ubs {a b : Bool} (h : a = b) : VLe (.ub a) (.ub b) := h ▸ .refl _
theorem VLe.bub {a b : Bool} (h : a = b) : VLe (.bool a) (.ub b) := h ▸ ub_le a
theorem VLe.ubb {a b : Bool} (h : a = b) : VLe (.ub a) (.bool b) := h ▸ bool_le a
theorem VLe.bools {a b : Bool} (h : a = b) : VLe (.bool a) (.bool b) := h ▸ .refl _
theorem VLe.tls {g : GT} {a b : List g.T} (h : a = b) : VLe (.tl g a) (.tl g b) := h ▸ .refl _
theorem VLe.nil_tl {g : GT} {b : List g.T} (h : b = []) : VLe (.sl []) (.tl g b) := by
  subst h; exact fun ok hh m v hv => .tl hv

/-- A call without arguments that was run. -/
theorem con_ran {P : Program} {T : Tabs} (hT : TyOK P T) (hF : FnOK P T) (hmx : P.follows .mixedOrders = true) {cfg : Cfg} (hp : PrimOK P cfg) {N : Nat} {f : FuncId} {v : AV} (h : treeAns (acallK T cfg N f [] [] [] 0) = some v) : ConOne P f (con0 True v) := by
  intro args c hc _ cx m w cargs hs hr hsz hm
  unfold con0 at hc
  split at hc
  · cases hc
    unfold treeAns at h
    split at h
    · rename_i v' H' F' n hacc
      cases hn : n.ble WIDE with
      | false => rw [hn, cond_false] at h; cases h
      | true =>
        rw [hn, cond_true] at h
        split at h
        · rename_i r hres
          have h := Option.some.inj h
          rw [acallK_eq] at hacc
          have key := acall_ok hT hF hp hmx N f [] [] [] 0 _ _ _ _ hacc cx m w cargs hs hr hsz (fun b _ => hm b)
          refine key.mono fun cv w' ⟨m', ha⟩ => ⟨m', ?_⟩
          show After cx m [] [] w 0 v [] [] WIDE cv m' w'
          rw [← h]
          exact ha.tree hres (Nat.le_of_ble_eq_true hn)
        · cases h
    · cases h
  · cases hc

end

/-! ### Numbers -/

theorem wrap64 {n : Int} (h1 : -9223372036854775808 ≤ n) (h2 : n ≤ 9223372036854775807) : IntKind.wrap .i64 n = n := by
  have hb : (2 : Int) ^ IntKind.i64.bits = 18446744073709551616 := by decide
  have hc : (2 : Int) ^ (IntKind.i64.bits - 1) = 9223372036854775808 := by decide
  have hs : IntKind.i64.signed = true := rfl
  unfold IntKind.wrap
  simp only [hb, hc, hs, Bool.true_and, decide_eq_true_eq]
  split <;> omega

end Go.Proofs.Ytjihnbjdclobgaa.VS
