/- The same machine, written by recursors alone: for the kernel's own reckoning. Conditions: none. -/
import Derived.Test.YtopkeglpafdlfaaGreatVS1
namespace Go.Proofs.YtopkeglpafdlfaaGreat.VS
noncomputable section

/-- 'if', by the recursor. -/
abbrev bK {α : Type} (c : Bool) (a b : α) : α := @Bool.rec (fun _ => α) b a c

def getK : Fr → Nat → AV :=
  @Fr.rec (fun _ => Nat → AV) (fun _ => und) (fun v _ _ gl gr k => bK (Nat.beq k (nat_lit 0)) v (bK (Nat.beq (Nat.mod k (nat_lit 2)) (nat_lit 1)) (gl (Nat.div k (nat_lit 2))) (gr (Nat.pred (Nat.div k (nat_lit 2))))))

def setK : Fr → Nat → AV → Fr :=
  @Fr.rec (fun _ => Nat → AV → Fr) (fun _ _ => .nil)
    (fun v l r gl gr k a => bK (Nat.beq k (nat_lit 0)) (.nd a l r) (bK (Nat.beq (Nat.mod k (nat_lit 2)) (nat_lit 1)) (.nd v (gl (Nat.div k (nat_lit 2)) a) r) (.nd v l (gr (Nat.pred (Nat.div k (nat_lit 2))) a))))

theorem getK_eq : ∀ (t : Fr) (k : Nat), getK t k = t.get k
  | .nil, _ => rfl
  | .nd v l r, k => by
    show bK (Nat.beq k 0) v (bK (Nat.beq (Nat.mod k 2) 1) (getK l (Nat.div k 2)) (getK r (Nat.pred (Nat.div k 2)))) = _
    rw [getK_eq l, getK_eq r, Fr.get]
    cases h1 : Nat.beq k 0 <;> cases h2 : Nat.beq (Nat.mod k 2) 1 <;> rfl

theorem setK_eq : ∀ (t : Fr) (k : Nat) (a : AV), setK t k a = t.set k a
  | .nil, _, _ => rfl
  | .nd v l r, k, a => by
    show bK (Nat.beq k 0) (Fr.nd a l r) (bK (Nat.beq (Nat.mod k 2) 1) (Fr.nd v (setK l (Nat.div k 2) a) r) (Fr.nd v l (setK r (Nat.pred (Nat.div k 2)) a))) = _
    rw [setK_eq l, setK_eq r, Fr.set]
    cases h1 : Nat.beq k 0 <;> cases h2 : Nat.beq (Nat.mod k 2) 1 <;> rfl

def opndK : Operand → Fr → AV := @Operand.rec (fun _ => Fr → AV) (fun t fr => getK fr t) (fun v _ => ofV v) (fun _ _ => .dead) (fun f _ => .fn f [])

theorem opndK_eq (x : Operand) (fr : Fr) : opndK x fr = opnd fr x := by
  cases x <;> first | rfl | exact getK_eq _ _

def opndsK : List Operand → Fr → List AV := @List.rec Operand (fun _ => Fr → List AV) (fun _ => []) (fun x _ ih fr => opndK x fr :: ih fr)

theorem opndsK_eq (fr : Fr) : ∀ l, opndsK l fr = opnds fr l
  | [] => rfl
  | x :: r => by show opndK x fr :: opndsK r fr = _; rw [opndK_eq, opndsK_eq fr r]; rfl

def calleeK : Callee → Env → St → Nat → Array TypeId → List AV → Res :=
  @Callee.rec (fun _ => Env → St → Nat → Array TypeId → List AV → Res) (fun f E s id _ args => acallee E s id (opndK f s.fr) args) (fun _ _ _ _ _ _ _ => .no)
    (fun b E s id ts args => tellB E.cfg.tell s.H s.F b args (abuiltin E.T s.H s.F id b ts.toList args))

def aopK : Op → Env → St → Nat → Res :=
  @Op.rec (fun _ => Env → St → Nat → Res)
    (fun x _ s _ => rv (opndK x s.fr))
    (fun x _ s _ => rv (opndK x s.fr))
    (fun c a b _ s _ => opPick (opndK c s.fr) (opndK a s.fr) (opndK b s.fr))
    (fun t E _ id => opAlloc E id t)
    (fun _ x _ s id => newCells id (opndK x s.fr))
    (fun t ps E s _ => ro (abuild E.T t (parts s.fr ps.toList)))
    (fun t len ps E s id => opBuildSlice E id t len (parts s.fr ps.toList))
    (fun t m k x E s _ => rw und (idOf (opndK m s.fr)) (amapUpdate E.T s.H s.F t (opndK m s.fr) (opndK k s.fr) (opndK x s.fr)))
    (fun t a E s _ => rr (idOf (opndK a s.fr)) (aload E.T s.H t (opndK a s.fr)))
    (fun t a x E s _ => rw und (idOf (opndK a s.fr)) (astore E.T s.H s.F t (opndK a s.fr) (opndK x s.fr)))
    (fun _ _ _ _ => .no)
    (fun _ _ _ _ => .no)
    (fun x _ s _ => opNilCheck (opndK x s.fr))
    (fun op t x y _ E s _ => ro (abin E.T op t (opndK x s.fr) (opndK y s.fr)))
    (fun op _ x _ s _ => ro (aun op (opndK x s.fr)))
    (fun a b x E s id => aconvert E.T s.H s.F id a b (opndK x s.fr))
    (fun _ _ _ _ _ => .no)
    (fun t x E s _ => opMakeInterface E t (opndK x s.fr))
    (fun fn first caps E s id => aop E s id (.makeFunc fn first caps))
    (fun t r E s id => opMakeMap E id t (mapO s.fr r))
    (fun _ _ _ _ _ => .no)
    (fun t l c E s id => opMakeSlice E id t (opndK l s.fr) (opndK c s.fr))
    (fun t x lo hi mx E s _ => ro (aslice E.T t (opndK x s.fr) (mapO s.fr lo) (mapO s.fr hi) (mapO s.fr mx)))
    (fun t x f E s _ => ro (afieldAddr E.T t (opndK x s.fr) f))
    (fun t x f E s _ => ro (afield E.T t (opndK x s.fr) f))
    (fun t x i E s _ => ro (aindexAddr E.T t (opndK x s.fr) (opndK i s.fr)))
    (fun t x i E s _ => ro (aindex E.T t (opndK x s.fr) (opndK i s.fr)))
    (fun t x i ok E s _ => rr (idOf (opndK x s.fr)) (alookup E.T s.H t (opndK x s.fr) (opndK i s.fr) ok))
    (fun t m k x E s _ => rw und (idOf (opndK m s.fr)) (amapUpdate E.T s.H s.F t (opndK m s.fr) (opndK k s.fr) (opndK x s.fr)))
    (fun _ _ _ _ _ _ => .no)
    (fun _ _ _ _ _ _ _ => .no)
    (fun _ _ _ _ _ => .no)
    (fun _ _ _ _ _ => .no)
    (fun _ _ _ _ => .no)
    (fun _ _ _ _ _ _ _ => .no)
    (fun t i _ s _ => opExtract i (opndK t s.fr))
    (fun c E s id => calleeK c.callee E s id c.argTypes (opndsK c.args.toList s.fr))
    (fun _ _ _ _ => .no)
    (fun _ _ _ _ => .no)
    (fun _ _ _ _ => .no)
    (fun _ _ _ _ _ => .no)
    (fun _ _ _ _ _ _ => .no)
    (fun _ _ _ _ _ => .no)

theorem aopK_eq (E : Env) (s : St) (id : Nat) (o : Op) : aopK o E s id = aop E s id o := by
  cases o with
  | call c =>
    obtain ⟨ce, as, ts⟩ := c
    show calleeK ce E s id ts (opndsK as.toList s.fr) = _
    rw [opndsK_eq]
    cases ce with
    | value f => show acallee E s id (opndK f s.fr) _ = _; rw [opndK_eq]; rfl
    | invoke r mth => rfl
    | builtin b => rfl
  | _ => first
    | rfl
    | (simp only [aopK, opndK_eq]; rfl)

def putK (dst : Option Tmp) (fr : Fr) (v : AV) : Fr := @Option.rec Tmp (fun _ => Fr) fr (fun d => setK fr d v) dst

theorem putK_eq (fr : Fr) (dst : Option Tmp) (v : AV) : putK dst fr v = put fr dst v := by
  cases dst
  · rfl
  · exact setK_eq _ _ _

def behindK (s : St) (dst : Option Tmp) : Res → OSt :=
  @Res.rec (fun _ => OSt) .no (fun v e _ fz => .at ⟨putK dst s.fr v, happ s.H e, fz ++ s.F, s.nx⟩) (fun v H F nx => .at ⟨putK dst s.fr v, H, F, nx⟩)

theorem behindK_eq (s : St) (dst : Option Tmp) (r : Res) : behindK s dst r = behind s dst r := by
  cases r <;> simp only [behindK, putK_eq] <;> rfl

def guardK (ops : List Oper) (fr : Fr) (go : OSt) (skip : OSt) : Option (Nat × Bool) → OSt :=
  @Option.rec (Nat × Bool) (fun _ => OSt) go (fun p => match awanted ops (some p) fr with
    | some true => go
    | some false => skip
    | none => .no)

def stepK (E : Env) (ops : List Oper) (id : Nat) (o : Oper) (s : St) : OSt :=
  guardK ops s.fr (behindK s o.dst (aopK o.op E s id)) (.at ⟨putK o.dst s.fr und, s.H, s.F, s.nx⟩) o.guard

theorem stepK_eq (E : Env) (ops : List Oper) (id : Nat) (o : Oper) (s : St) : stepK E ops id o s = stepOp E ops id o s := by
  unfold stepK stepOp
  rw [behindK_eq, aopK_eq, putK_eq]
  cases o.guard with
  | none => rfl
  | some p =>
    show (match awanted ops (some p) s.fr with | some true => _ | some false => _ | none => _) = _
    rfl

def thenS (f : St → OSt) : OSt → OSt := @OSt.rec (fun _ => OSt) .no f

def seqK (E : Env) (ops : List Oper) : List Oper → Nat → St → OSt :=
  @List.rec Oper (fun _ => Nat → St → OSt) (fun _ s => .at s) (fun o _ ih id s => thenS (ih (Nat.add id (nat_lit 64))) (stepK E ops id o s))

theorem seqK_eq (E : Env) (ops : List Oper) : ∀ (l : List Oper) (id : Nat) (s : St), seqK E ops l id s = seqOps E ops l id s
  | [], _, _ => rfl
  | o :: r, id, s => by
    show thenS (seqK E ops r (Nat.add id 64)) (stepK E ops id o s) = _
    rw [stepK_eq, seqOps]
    cases stepOp E ops id o s with
    | no => rfl
    | «at» s' => exact seqK_eq E ops r _ s'

def drawK (E : Env) (ops : List Oper) (s : St) : Out := drawAgain E ops s (seqK E ops) (drawTry E ops s [])

def regionK (ops : List Oper) (draw : Bool) (E : Env) (s : St) : Out :=
  bK draw (drawK E ops s) (goN (seqK E ops ops s.nx (withF s s.F ops.length)))

theorem regionK_eq (E : Env) (ops : List Oper) (draw : Bool) (s : St) : regionK ops draw E s = aregion E ops draw s := by
  have h : seqK E ops = seqOps E ops := by funext l id s; exact seqK_eq E ops l id s
  unfold regionK drawK aregion
  rw [h]
  cases draw <;> rfl

def thenK (f : St → Out) : AX → St → Out := @AX.rec (fun _ => St → Out) f (fun k s => .go (.exit k) s) (fun s => .go .ret s)
def thenOK (f : St → Out) : Out → Out := @Out.rec (fun _ => Out) .no (fun x s => thenK f x s)

theorem thenOK_eq (f : St → Out) (r : Out) : thenOK f r = thenO f r := by
  cases r with
  | no => rfl
  | go x s => cases x <;> rfl

def iterK (body : St → Out) : Nat → St → Out :=
  @Nat.rec (fun _ => St → Out) (fun _ => .no) (fun _ ih s => thenOK ih (body s))

theorem iterK_eq (body : St → Out) : ∀ (n : Nat) (s : St), iterK body n s = iter body n s
  | 0, _ => rfl
  | n + 1, s => by
    show thenOK (iterK body n) (body s) = _
    rw [iter]
    cases body s with
    | no => rfl
    | go x s' => cases x with
      | normal => exact iterK_eq body n s'
      | _ => rfl

def boolK (a b : Out) : AV → Out
  | .bool true => a
  | .bool false => b
  | _ => .no

def execK : Code → Env → Nat → St → Out :=
  @Code.rec (fun _ => Env → Nat → St → Out)
    (fun _ _ s => .go .normal s)
    (fun _ ops draw E _ s => regionK ops.toList draw E s)
    (fun _ _ fa fb E n s => thenOK (fb E n) (fa E n s))
    (fun c _ _ fa fb E n s => boolK (fa E n s) (fb E n s) (opndK c s.fr))
    (fun id _ fb E n s => blockO id (fb E n s))
    (fun _ fb E n s => iterK (fb E n) n s)
    (fun _ _ _ _ _ _ _ _ _ => .no)
    (fun id _ _ s => .go (.exit id) s)
    (fun _ _ _ _ _ => .no)
    (fun _ _ _ s => .go .normal s)
    (fun _ _ _ _ => .no)
    (fun _ _ s => .go .ret s)
    (fun _ _ _ _ => .no)

theorem execK_eq (E : Env) (n : Nat) : ∀ (c : Code) (s : St), execK c E n s = exec E n c s
  | .skip, _ => rfl
  | .label _, _ => rfl
  | .region _ ops draw, s => regionK_eq E ops.toList draw s
  | .seq a b, s => by
    show thenOK (execK b E n) (execK a E n s) = _
    rw [execK_eq E n a, thenOK_eq, exec]
    congr 1
    funext s'
    exact execK_eq E n b s'
  | .cond c a b, s => by
    show boolK (execK a E n s) (execK b E n s) (opndK c s.fr) = _
    rw [execK_eq E n a, execK_eq E n b, opndK_eq, exec]
    rfl
  | .block id b, s => by
    show blockO id (execK b E n s) = _
    rw [execK_eq E n b, exec]
  | .loop b, s => by
    show iterK (execK b E n) n s = _
    rw [iterK_eq, exec]
    congr 1
    funext s'
    exact execK_eq E n b s'
  | .exit _, _ => rfl
  | .ret, _ => rfl
  | .rangeFunc _ _ _ _, _ => rfl
  | .scope _, _ => rfl
  | .goto _, _ => rfl
  | .refuse _, _ => rfl

def optK {α β : Type} (a : β) (f : α → β) : Option α → β := @Option.rec α (fun _ => β) a f

def getTK {α : Type} : Tr α → Nat → Option α :=
  @Tr.rec α (fun _ => Nat → Option α) (fun _ => none) (fun v _ _ gl gr k => bK (Nat.beq k (nat_lit 0)) v (bK (Nat.beq (Nat.mod k (nat_lit 2)) (nat_lit 1)) (gl (Nat.div k (nat_lit 2))) (gr (Nat.pred (Nat.div k (nat_lit 2))))))

theorem getTK_eq {α : Type} : ∀ (t : Tr α) (k : Nat), getTK t k = t.get k
  | .nil, _ => rfl
  | .nd v l r, k => by
    show bK (Nat.beq k 0) v (bK (Nat.beq (Nat.mod k 2) 1) (getTK l (Nat.div k 2)) (getTK r (Nat.pred (Nat.div k 2)))) = _
    rw [getTK_eq l, getTK_eq r, Tr.get]
    cases h1 : Nat.beq k 0 <;> cases h2 : Nat.beq (Nat.mod k 2) 1 <;> rfl

def bodyK (E : Env) (n : Nat) (args : List AV) (H : Heap) (F : List Nat) (nx : Nat) (fn : Func) : Ans :=
  optK .no (fun code => bK (Nat.ble args.length fn.ntmps) (ended E.T fn.results.toList (execK code E n ⟨Fr.args args 0 (Fr.full 10), H, F, nx⟩)) .no) fn.body

def acallK (T : Tabs) (cfg : Cfg) : Nat → FuncId → List AV → Heap → List Nat → Nat → Ans :=
  @Nat.rec (fun _ => FuncId → List AV → Heap → List Nat → Nat → Ans) (fun _ _ _ _ _ => .no)
    (fun n ih f args H F nx => optK (optK (optK .no (bodyK ⟨T, cfg, ih⟩ (Nat.succ n) args H F nx) (getTK T.fn f)) (fun p => toldH (p args H F nx)) (cfg.primH f)) (fun r => .ok r.1 r.2 [] WIDE) (told cfg f args H F nx))

theorem acallK_eq (T : Tabs) (cfg : Cfg) : ∀ (n : Nat), acallK T cfg n = acall T cfg n
  | 0 => rfl
  | n + 1 => by
    funext f args H F nx
    show optK (optK (optK .no (bodyK ⟨T, cfg, acallK T cfg n⟩ (n + 1) args H F nx) (getTK T.fn f)) (fun p => toldH (p args H F nx)) (cfg.primH f)) (fun r => .ok r.1 r.2 [] WIDE) (told cfg f args H F nx) = _
    rw [acallK_eq T cfg n, acall, getTK_eq]
    cases told cfg f args H F nx with
    | some p => rfl
    | none =>
      show optK _ _ _ = _
      cases cfg.primH f with
      | some p => rfl
      | none =>
      show optK _ _ _ = _
      cases T.fn.get f with
      | none => rfl
      | some fn =>
        show bodyK ⟨T, cfg, acall T cfg n⟩ (n + 1) args H F nx fn = bodyAns ⟨T, cfg, acall T cfg n⟩ (n + 1) fn args H F nx
        unfold bodyK bodyAns
        cases fn.body with
        | none => rfl
        | some code =>
          show bK (Nat.ble args.length fn.ntmps) (ended _ _ (execK code _ _ _)) _ = _
          rw [execK_eq]
          cases Nat.ble args.length fn.ntmps <;> rfl

end
end Go.Proofs.YtopkeglpafdlfaaGreat.VS
