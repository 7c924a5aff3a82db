/- What chapter 3 asks of a disk, in plain words: all of it. Conditions: none. -/
import Derived.Test.YtmkmjjodiicmlaaPD2
namespace Go.Proofs.Ytmkmjjodiicmlaa.VS
set_option maxRecDepth 100000
set_option linter.unusedVariables false
set_option linter.unusedSimpArgs false

theorem e_sound_names {d : Dsk} (hd : SmD d) (n : Nod) (hn : SmN n) (hs : ∀ x ∈ n.names, x.name.length ≤ SM) :
    ((∀ i, i < n.names.length → ∀ h : i < n.names.length, (getN d.nodes n.names[i].ino).2 = true ∧ NameOK n.names[i].name ∧ (0 < i → bytesLt (n.names[i - 1]'(by omega)).name n.names[i].name = true)) ∧ L_r3_sound_l0 (d, n, 0) = some (.inr ())) ∨
    ((¬ ∀ i, i < n.names.length → ∀ h : i < n.names.length, (getN d.nodes n.names[i].ino).2 = true ∧ NameOK n.names[i].name ∧ (0 < i → bytesLt (n.names[i - 1]'(by omega)).name n.names[i].name = true)) ∧ L_r3_sound_l0 (d, n, 0) = some (.inl false)) := by
  refine loop_all n.names.length _ (fun i => (d, n, (i : Int))) (Sum.inl false) (Sum.inr ()) (fun i hi _ => ?_) (fun _ => ?_)
  · have hw := wrS (i := i) (by have := hn.1; unfold SM at this; omega)
    obtain ⟨b, hb, hb'⟩ := e_r1_Named n.names[i].name (by have := hs _ (List.getElem_mem hi); unfold SM at this; omega)
    simp only [tl_r3_sound_l0]
    rw [run_iteT (by simp; omega), run_req (inb hi)]
    simp only [getD_int hi]
    rw [run_bind (e_r3_Get hd _)]
    cases c1 : (getN d.nodes n.names[i].ino).2 with
    | false => exact .inr ⟨fun h => by have := (h hi).1; rw [c1] at this; exact Bool.noConfusion this, by rw [run_iteT (by rfl), run_ret]⟩
    | true =>
      rw [run_iteF (by rfl), run_req (inb hi), run_bind hb]
      cases c2 : b with
      | false => exact .inr ⟨fun h => by have := hb'.2 (h hi).2.1; rw [c2] at this; exact Bool.noConfusion this, by rw [run_iteT (by rfl), run_ret]⟩
      | true =>
        rw [run_iteF (by rfl)]
        by_cases h0 : i = 0
        · subst h0
          exact .inl ⟨fun _ => ⟨c1, hb'.1 c2, fun h => absurd h (Nat.lt_irrefl _)⟩, by rw [run_iteF (by simp), run_ret, hw]⟩
        · have hp := wrP (i := i) (by omega) (by have := hn.1; unfold SM at this; omega)
          have hi1 : i - 1 < n.names.length := by omega
          rw [run_iteT (by simp; omega), run_req (inb hi)]
          simp only [hp]
          rw [run_req (inb hi1)]
          simp only [getD_int hi1]
          cases c3 : (bytesLt n.names[i].name n.names[i - 1].name || n.names[i].name == n.names[i - 1].name) with
          | true => exact .inr ⟨fun h => by have := bl_not.2 ((h hi).2.2 (by omega)); rw [c3] at this; exact Bool.noConfusion this, by rw [run_iteT (by rfl), run_ret]⟩
          | false => exact .inl ⟨fun _ => ⟨c1, hb'.1 c2, fun _ => bl_not.1 c3⟩, by rw [run_iteF (by rfl), run_ret, hw]⟩
  · simp only [tl_r3_sound_l0]
    rw [run_iteF (by simp), run_ret]

theorem e_r3_sound {d : Dsk} (hd : SmD d) (n : Nod) (hn : SmN n) (hs : ∀ x ∈ n.names, x.name.length ≤ SM) : ∃ b, f_r3_sound d n = some b ∧ (b = true ↔ NodOK d n) := by
  have no : ∀ {P : Prop}, ¬ P → ((false = true) ↔ P) := fun h => ⟨fun e => (by cases e), fun p => absurd p h⟩
  simp only [f_r3_sound, t_r3_sound]
  by_cases c1 : n.kind < 1
  · exact ⟨false, by rw [run_iteT (by simpa using c1), run_ret], no fun h => by have := h.kind1; omega⟩
  rw [run_iteF (by simpa using c1)]
  by_cases c2 : n.kind > 3
  · exact ⟨false, by rw [run_iteT (by simpa using c2), run_ret], no fun h => by have := h.kind3; omega⟩
  rw [run_iteF (by simpa using c2)]
  by_cases c3 : n.mode < 0
  · exact ⟨false, by rw [run_iteT (by simpa using c3), run_ret], no fun h => by have := h.mode0; omega⟩
  rw [run_iteF (by simpa using c3)]
  by_cases c4 : n.mode > 511
  · exact ⟨false, by rw [run_iteT (by simpa using c4), run_ret], no fun h => by have := h.mode1; omega⟩
  rw [run_iteF (by simpa using c4)]
  obtain ⟨b, hb, hb'⟩ := e_r2_Is n.file hn.2.1
  rw [run_bind hb]
  cases c5 : b with
  | false => exact ⟨false, by rw [run_iteT (by rfl), run_ret], no fun h => by have := hb'.2 h.file; rw [c5] at this; exact Bool.noConfusion this⟩
  | true =>
    have hfile := hb'.1 c5
    rw [run_iteF (by rfl)]
    -- the end of it
    have tail : (n.kind ≠ 1 → n.file.size ≤ 0 ∧ n.file.blocks = []) → (n.kind ≠ 2 → n.names = []) → ∃ b, (T.ite (!(n.kind == (3 : Int)) == !n.target == []) (T.ret (false)) (T.ite (decide ((↑(List.length n.target) : Int) > (120 : Int))) (T.ret (false)) (T.bind (L_r3_sound_l0 (d, n, (0 : Int))) fun r => (T.case (r) (fun r => (T.ret (r))) (fun r => (T.ret (true))))))).run = some b ∧ (b = true ↔ NodOK d n) := by
      intro h1 h2
      by_cases k1 : n.kind = 3 ↔ n.target ≠ []
      case neg =>
        refine ⟨false, ?_, no fun h => k1 h.link⟩
        rw [run_iteT, run_ret]
        cases ht : n.target <;> by_cases a : n.kind = 3 <;> simp_all
      rw [run_iteF (by cases ht : n.target <;> by_cases a : n.kind = 3 <;> simp_all)]
      by_cases k2 : (n.target.length : Int) > 120
      · exact ⟨false, by rw [run_iteT (by simpa using k2), run_ret], no fun h => by have := h.tlen; omega⟩
      rw [run_iteF (by simpa using k2)]
      rcases e_sound_names hd n hn hs with ⟨a, b⟩ | ⟨a, b⟩
      · rw [run_bind b, run_caseR, run_ret]
        refine ⟨true, rfl, fun _ => ⟨by omega, by omega, by omega, by omega, hfile, h1, h2, k1, by omega, fun i hi => ⟨(a i hi hi).1, (a i hi hi).2.1⟩, fun i hi => ?_⟩, fun _ => rfl⟩
        have := (a (i + 1) hi hi).2.2 (by omega)
        simpa using this
      · rw [run_bind b, run_caseL, run_ret]
        refine ⟨false, rfl, no fun h => a fun i hi _ => ⟨(h.named i hi).1, (h.named i hi).2, fun h0 => ?_⟩⟩
        have := h.sorted (i - 1) (by omega)
        have e : i - 1 + 1 = i := by omega
        simpa [e] using this
    have tail2 : (n.kind ≠ 1 → n.file.size ≤ 0 ∧ n.file.blocks = []) → ∃ b, ((T.ite (n.kind != (2 : Int)) (T.ite (decide ((↑n.names.length : Int) > (0 : Int))) (T.ret (false)) (T.ite (!(n.kind == (3 : Int)) == !n.target == []) (T.ret (false)) (T.ite (decide ((↑(List.length n.target) : Int) > (120 : Int))) (T.ret (false)) (T.bind (L_r3_sound_l0 (d, n, (0 : Int))) fun r => (T.case (r) (fun r => (T.ret (r))) (fun r => (T.ret (true)))))))) (T.ite (!(n.kind == (3 : Int)) == !n.target == []) (T.ret (false)) (T.ite (decide ((↑(List.length n.target) : Int) > (120 : Int))) (T.ret (false)) (T.bind (L_r3_sound_l0 (d, n, (0 : Int))) fun r => (T.case (r) (fun r => (T.ret (r))) (fun r => (T.ret (true))))))))).run = some b ∧ (b = true ↔ NodOK d n) := by
      intro h1
      by_cases k : n.kind = 2
      · rw [run_iteF (by simpa using k)]
        exact tail h1 fun h => absurd k h
      · rw [run_iteT (by simpa using k)]
        by_cases k2 : (n.names.length : Int) > 0
        · exact ⟨false, by rw [run_iteT (by simpa using k2), run_ret], no fun h => by have := h.dir k; rw [this] at k2; simp at k2⟩
        · rw [run_iteF (by simpa using k2)]
          exact tail h1 fun _ => List.length_eq_zero_iff.1 (by omega)
    by_cases c6 : n.kind = 1
    · rw [run_iteF (by simpa using c6)]
      exact tail2 fun h => absurd c6 h
    · rw [run_iteT (by simpa using c6)]
      by_cases c7 : n.file.size > 0
      · exact ⟨false, by rw [run_iteT (by simpa using c7), run_ret], no fun h => by have := (h.plain c6).1; omega⟩
      rw [run_iteF (by simpa using c7)]
      by_cases c8 : (n.file.blocks.length : Int) > 0
      · exact ⟨false, by rw [run_iteT (by simpa using c8), run_ret], no fun h => by have := (h.plain c6).2; rw [this] at c8; simp at c8⟩
      rw [run_iteF (by simpa using c8)]
      exact tail2 fun _ => ⟨by omega, List.length_eq_zero_iff.1 (by omega)⟩

/-! ### How many names a number has -/

def cntN (l : List Nam) (ino : Int) : Nat := l.countP fun x => x.ino == ino
def cntD (l : List Nod) (ino : Int) : Nat := (l.map fun n => cntN n.names ino).sum

theorem cnt_snoc (l : List Nam) (i : Nat) (h : i < l.length) (ino : Int) : cntN (l.take (i + 1)) ino = cntN (l.take i) ino + if l[i].ino == ino then 1 else 0 := by
  rw [List.take_add_one, List.getElem?_eq_getElem h, Option.toList_some]
  unfold cntN
  rw [List.countP_append, List.countP_singleton]
theorem cntD_snoc (l : List Nod) (i : Nat) (h : i < l.length) (ino : Int) : cntD (l.take (i + 1)) ino = cntD (l.take i) ino + cntN l[i].names ino := by
  rw [List.take_add_one, List.getElem?_eq_getElem h, Option.toList_some]
  unfold cntD
  rw [List.map_append, List.sum_append]
  simp only [List.map_cons, List.map_nil, List.sum_cons, List.sum_nil, Nat.add_zero]
theorem cntN_le (l : List Nam) (ino : Int) : cntN l ino ≤ l.length := List.countP_le_length
theorem cntD_le {l : List Nod} (h : ∀ n ∈ l, n.names.length ≤ SM) (ino : Int) : cntD l ino ≤ l.length * SM := by
  induction l with
  | nil => simp [cntD]
  | cons a l ih =>
    have h1 := ih fun n hn => h n (List.mem_cons_of_mem _ hn)
    have h2 := cntN_le a.names ino
    have h3 := h a List.mem_cons_self
    simp only [cntD, List.map_cons, List.sum_cons, List.length_cons] at h1 ⊢
    have : (l.length + 1) * SM = l.length * SM + SM := by rw [Nat.add_mul, Nat.one_mul]
    omega

theorem e_r3_named {d : Dsk} (hd : SmD d) (ino : Int) : f_r3_named d ino = some (cntD d.nodes ino : Int) := by
  have hb : ∀ i, i ≤ d.nodes.length → cntD (d.nodes.take i) ino ≤ SM * SM := by
    intro i hi
    refine Nat.le_trans (cntD_le (fun n hn => (hd.2 n (List.mem_of_mem_take hn)).1) ino) ?_
    exact Nat.mul_le_mul_right _ (by rw [List.length_take]; have := hd.1; omega)
  have hl : L_r3_named_l0 (ino, d, 0, 0) = some (cntD d.nodes ino : Int) := by
    refine loop_to (fun i => (ino, d, (cntD (d.nodes.take i) ino : Int), (i : Int))) d.nodes.length (fun i hi => ?_) ?_
    · have hn := (hd.2 _ (List.getElem_mem hi)).1
      have hw := wrS (i := i) (by have := hd.1; unfold SM at this; omega)
      have hin : L_r3_named_l0_0 (ino, d, (cntD (d.nodes.take i) ino : Int), (i : Int), 0) = some (ino, d, ((cntD (d.nodes.take i) ino + cntN d.nodes[i].names ino : Nat) : Int), (i : Int)) := by
        refine loop_to (fun k => (ino, d, ((cntD (d.nodes.take i) ino + cntN (d.nodes[i].names.take k) ino : Nat) : Int), (i : Int), (k : Int))) d.nodes[i].names.length (fun k hk => ?_) ?_
        · have hwk := wrS (i := k) (by unfold SM at hn; omega)
          have hle : cntD (d.nodes.take i) ino + cntN (d.nodes[i].names.take k) ino ≤ 4611686018427387904 := by
            have h1 := hb i (by omega)
            have h2 := cntN_le (d.nodes[i].names.take k) ino
            rw [List.length_take] at h2
            unfold SM at h1 hn; omega
          simp only [tl_r3_named_l0_0]
          rw [run_req (inb hi)]
          simp only [getD_int hi]
          rw [run_iteT (by simp; omega), run_req (inb hi), run_req (inb hk)]
          simp only [getD_int hk]
          rw [cnt_snoc _ k hk]
          cases hc : (d.nodes[i].names[k].ino == ino) with
          | true => rw [run_iteT (by rfl), run_ret, hwk, wrS hle]; rfl
          | false => rw [run_iteF (by rfl), run_ret, hwk]; rfl
        · simp only [tl_r3_named_l0_0]
          rw [run_req (inb hi)]
          simp only [getD_int hi]
          rw [run_iteF (by simp), run_ret, List.take_length]
      simp only [tl_r3_named_l0]
      rw [run_iteT (by simp; omega), run_bind hin, run_ret, hw, cntD_snoc _ i hi]
    · simp only [tl_r3_named_l0]
      rw [run_iteF (by simp), run_ret, List.take_length]
  simp only [f_r3_named, t_r3_named]
  rw [run_bind hl, run_ret]

/-! ### What is reached -/

def reachGo (f : Int → List Int → List Int × Bool) : List Nam → List Int → List Int × Bool
  | [], l => (l, true)
  | x :: r, l => if l.contains x.ino then reachGo f r l else
    match f x.ino (l ++ [x.ino]) with
    | (m, true) => reachGo f r m
    | (m, false) => (m, false)

def reachN (nodes : List Nod) : Nat → Int → List Int → List Int × Bool
  | 0, ino, l => (l, (getN nodes ino).1.names.isEmpty)
  | k + 1, ino, l => reachGo (reachN nodes k) (getN nodes ino).1.names l

/-- Numbers, each once, each a node's. -/
def InoL (nodes : List Nod) (l : List Int) : Prop := l.Nodup ∧ ∀ x ∈ l, x ∈ nodes.map (·.ino)
theorem InoL.len {nodes : List Nod} {l : List Int} (h : InoL nodes l) : l.length ≤ nodes.length := by
  have := len_of_nodup h.1 h.2
  simpa using this
theorem InoL.snoc {nodes : List Nod} {l : List Int} (h : InoL nodes l) {x : Int} (hx : l.contains x = false) (hm : x ∈ nodes.map (·.ino)) : InoL nodes (l ++ [x]) := by
  refine ⟨?_, fun y hy => ?_⟩
  · rw [List.nodup_append]
    refine ⟨h.1, by simp, fun a ha b hb => ?_⟩
    rintro rfl
    simp at hb; subst hb
    rw [List.contains_iff_mem.2 ha] at hx; cases hx
  · rcases List.mem_append.1 hy with h1 | h1
    · exact h.2 y h1
    · simp at h1; subst h1; exact hm

theorem reachGo_inv {nodes : List Nod} {f : Int → List Int → List Int × Bool} (hf : ∀ x l, InoL nodes l → InoL nodes (f x l).1) : ∀ (r : List Nam) (l : List Int), (∀ x ∈ r, x.ino ∈ nodes.map (·.ino)) → InoL nodes l → InoL nodes (reachGo f r l).1
  | [], l, _, h => h
  | x :: r, l, hr, h => by
    rw [reachGo]
    split
    · exact reachGo_inv hf r l (fun y hy => hr y (List.mem_cons_of_mem _ hy)) h
    · rename_i hc
      have h1 := hf x.ino (l ++ [x.ino]) (h.snoc (by simpa using hc) (hr x List.mem_cons_self))
      split
      · rename_i m hm
        rw [hm] at h1
        exact reachGo_inv hf r m (fun y hy => hr y (List.mem_cons_of_mem _ hy)) h1
      · rename_i m hm
        rw [hm] at h1; exact h1

theorem getN_names {nodes : List Nod} {x : Nam} {ino : Int} (h : x ∈ (getN nodes ino).1.names) : ∃ n ∈ nodes, x ∈ n.names := by
  unfold getN at h
  split at h
  · rename_i n hn; exact ⟨n, List.mem_of_find?_eq_some hn, h⟩
  · simp at h

theorem reachN_inv {nodes : List Nod} (hn : ∀ n ∈ nodes, ∀ x ∈ n.names, x.ino ∈ nodes.map (·.ino)) : ∀ (k : Nat) (ino : Int) (l : List Int), InoL nodes l → InoL nodes (reachN nodes k ino l).1
  | 0, _, l, h => h
  | k + 1, ino, l, h => reachGo_inv (fun x l => reachN_inv hn k x l) _ l (fun x hx => let ⟨n, h1, h2⟩ := getN_names hx; hn n h1 x h2) h

theorem mono_reached : Mono P_r3_reached := by
  intro s s' h x r hr
  have h : ∀ x, Le (s x) (s' x) := h
  revert r
  show Le _ _
  simp only [P_r3_reached, t_r3_reached, L_r3_reached_l0]
  have hl : ∀ p, Le (fixT (fun q : Int × (List Int) × Dsk × Nod × Int => tl_r3_reached_l0 s q.1 q.2.1 q.2.2.1 q.2.2.2.1 q.2.2.2.2) p) (fixT (fun q => tl_r3_reached_l0 s' q.1 q.2.1 q.2.2.1 q.2.2.2.1 q.2.2.2.2) p) := by
    refine fun p => le_fix (fun q => ?_) p
    simp only [tl_r3_reached_l0]
    repeat' first | exact h _ | exact Le.refl _ | apply le_bind | apply le_ite | apply le_req | apply le_same | apply le_case | intro _
  repeat' first | exact hl _ | exact Le.refl _ | apply le_bind | apply le_ite | apply le_req | apply le_same | apply le_case | intro _

theorem e_reached {d : Dsk} (hd : SmD d) (hn : ∀ n ∈ d.nodes, ∀ x ∈ n.names, x.ino ∈ d.nodes.map (·.ino)) : ∀ (k : Nat) (hk : k ≤ 1000) (ino : Int) (l : List Int), InoL d.nodes l → recN P_r3_reached (k + 1) (d, ino, (k : Int), l) = some (reachN d.nodes k ino l) := by
  -- the loop, by what it calls
  have loop : ∀ (s : Dsk × (Int × (Int × List Int)) → Option (List Int × Bool)) (f : Int → List Int → List Int × Bool) (k : Nat) (hk : k + 1 ≤ 1001) (n : Nod) (hnn : ∀ x ∈ n.names, x.ino ∈ d.nodes.map (·.ino)) (hl : n.names.length ≤ SM)
      (hs : ∀ x l, InoL d.nodes l → s (d, x, (k : Int), l) = some (f x l)) (hf : ∀ x l, InoL d.nodes l → InoL d.nodes (f x l).1) (l : List Int), InoL d.nodes l →
      ∃ r, L_r3_reached_l0 s (((k + 1 : Nat) : Int), l, d, n, 0) = some r ∧ (match r with | .inl q => (q.1, q.2) | .inr m => (m, true)) = reachGo f n.names l := by
    intro s f k hk n hnn hlen hs hf l hl
    refine loop_inv (fun i p => ∃ m, p = (((k + 1 : Nat) : Int), m, d, n, (i : Int)) ∧ InoL d.nodes m ∧ reachGo f (n.names.drop i) m = reachGo f n.names l) (fun r : (List Int × Bool) ⊕ List Int => (match r with | .inl q => (q.1, q.2) | .inr m => (m, true)) = reachGo f n.names l) n.names.length (fun i p hi hp => ?_) (fun p hp => ?_) ⟨l, rfl, hl, by simp⟩
    · obtain ⟨m, rfl, hm, he⟩ := hp
      have hw := wrS (i := i) (by unfold SM at hlen; omega)
      have hw1 : IntKind.i64.wrap (((k + 1 : Nat) : Int) - 1) = (k : Int) := by rw [wr (by omega) (by omega)]; omega
      have hml := hm.len
      have hmS : m.length ≤ SM := Nat.le_trans hml hd.1
      rw [List.drop_eq_getElem_cons hi, reachGo] at he
      simp only [tl_r3_reached_l0]
      rw [run_iteT (by simp; omega), run_req (inb hi)]
      simp only [getD_int hi]
      rw [run_bind (e_r3_has m _ hmS)]
      cases hc : m.contains n.names[i].ino with
      | true =>
        rw [hc, if_pos rfl] at he
        refine .inl ⟨_, by rw [run_iteT (by rfl), run_ret, hw], m, rfl, hm, he⟩
      | false =>
        rw [hc, if_neg (by decide)] at he
        have hm2 := hm.snoc hc (hnn _ (List.getElem_mem hi))
        have hml2 : (m ++ [n.names[i].ino]).length ≤ SM := Nat.le_trans hm2.len hd.1
        rw [run_iteF (by rfl), run_req (rmM hmS (by omega)), run_req ⟨trivial, rmM hml2 (by omega)⟩, run_same, hw1, run_bind (hs _ _ hm2)]
        have hf2 := hf n.names[i].ino _ hm2
        cases hq : f n.names[i].ino (m ++ [n.names[i].ino]) with
        | mk m2 b =>
          rw [hq] at he hf2
          cases b with
          | true =>
            simp only at he
            refine .inl ⟨_, by rw [run_iteF (by rfl), run_ret, hw], m2, rfl, hf2, he⟩
          | false =>
            simp only at he
            refine .inr ⟨.inl (m2, false), by rw [run_iteT (by rfl), run_ret], he⟩
    · obtain ⟨m, rfl, hm, he⟩ := hp
      rw [List.drop_length, reachGo] at he
      refine ⟨.inr m, ?_, he⟩
      simp only [tl_r3_reached_l0]
      rw [run_iteF (by simp), run_ret]
  intro k
  induction k with
  | zero =>
    intro hk ino l hl
    show P_r3_reached (recN P_r3_reached 0) _ = _
    simp only [P_r3_reached, t_r3_reached]
    rw [run_bind (e_r3_Get hd ino), run_iteT (by simp)]
    rw [reachN]
    cases hnm : (getN d.nodes ino).1.names with
    | nil =>
      rw [run_iteF (by simp)]
      have : L_r3_reached_l0 (recN P_r3_reached 0) (((0 : Nat) : Int), l, d, (getN d.nodes ino).1, 0) = some (.inr l) := by
        refine fixT_out ?_
        simp only [tl_r3_reached_l0]
        rw [run_iteF (by simp [hnm]), run_ret]
      rw [run_bind this, run_caseR, run_ret]
      rfl
    | cons a r =>
      rw [run_iteT (by simp), run_ret]
      rfl
  | succ k ih =>
    intro hk ino l hl
    show P_r3_reached (recN P_r3_reached (k + 1)) _ = _
    simp only [P_r3_reached, t_r3_reached]
    have hnm : ∀ x ∈ (getN d.nodes ino).1.names, x.ino ∈ d.nodes.map (·.ino) := fun x hx => let ⟨n, h1, h2⟩ := getN_names hx; hn n h1 x h2
    obtain ⟨r, h1, h2⟩ := loop (recN P_r3_reached (k + 1)) (reachN d.nodes k) k (by omega) (getN d.nodes ino).1 hnm (getN_sm hd.2 ino).1 (fun x l hl => ih (by omega) x l hl) (fun x l hl => reachN_inv hn k x l hl) l hl
    rw [run_bind (e_r3_Get hd ino), run_iteF (by simp; omega), run_bind h1, reachN, ← h2]
    cases r with
    | inl q => rw [run_caseL, run_ret]
    | inr q => rw [run_caseR, run_ret]

/-! ### A disk that may be -/

structure DskOK (d : Dsk) : Prop where
  b0 : 0 ≤ d.blocks
  b1 : d.blocks ≤ 1048576
  n0 : 1 ≤ d.inodes
  n1 : d.inodes ≤ 4096
  len : (d.nodes.length : Int) ≤ d.inodes
  next0 : 1 ≤ d.next
  next1 : d.next < 4611686018427387904
  root : ∃ h : 0 < d.nodes.length, d.nodes[0].ino = 1 ∧ d.nodes[0].kind = 2
  below : ∀ n ∈ d.nodes, n.ino < d.next
  sorted : ∀ i (h : i + 1 < d.nodes.length), (d.nodes[i]'(by omega)).ino < d.nodes[i + 1].ino
  nodes : ∀ n ∈ d.nodes, NodOK d n
  links : ∀ i (h : i < d.nodes.length), d.nodes[i].links = cntD d.nodes d.nodes[i].ino + (if i = 0 then 1 else 0)
  dirs : ∀ i (h : i < d.nodes.length), d.nodes[i].kind = 2 → d.nodes[i].links = 1

/-- What is asked of one node. -/
def NodeAt (d : Dsk) (i : Nat) (h : i < d.nodes.length) : Prop :=
  d.nodes[i].ino < d.next ∧ (0 < i → (d.nodes[i - 1]'(by omega)).ino < d.nodes[i].ino) ∧ NodOK d d.nodes[i] ∧ d.nodes[i].links = cntD d.nodes d.nodes[i].ino + (if i = 0 then 1 else 0) ∧ (d.nodes[i].kind = 2 → d.nodes[i].links = 1)

theorem e_Is_nodes {d : Dsk} (hd : SmD d) (hs : ∀ n ∈ d.nodes, ∀ x ∈ n.names, x.name.length ≤ SM) :
    ((∀ i, i < d.nodes.length → ∀ h, NodeAt d i h) ∧ L_r3_Is_l0 (d, (d.nodes.length : Int), 0) = some (.inr (d, (d.nodes.length : Int)))) ∨
    ((¬ ∀ i, i < d.nodes.length → ∀ h, NodeAt d i h) ∧ L_r3_Is_l0 (d, (d.nodes.length : Int), 0) = some (.inl false)) := by
  refine loop_all d.nodes.length (fun i => ∀ h, NodeAt d i h) (fun i => (d, (d.nodes.length : Int), (i : Int))) (Sum.inl false) (Sum.inr (d, (d.nodes.length : Int))) (fun i hi _ => ?_) (fun _ => ?_)
  · have hS := hd.1
    have hw := wrS (i := i) (by unfold SM at hS; omega)
    obtain ⟨b, hb, hb'⟩ := e_r3_sound hd d.nodes[i] (hd.2 _ (List.getElem_mem hi)) (hs _ (List.getElem_mem hi))
    have hnm := e_r3_named hd d.nodes[i].ino
    have hcl : cntD d.nodes d.nodes[i].ino ≤ 4611686018427387904 := by
      have h1 := cntD_le (fun n hn => (hd.2 n hn).1) d.nodes[i].ino
      have h2 : d.nodes.length * SM ≤ SM * SM := Nat.mul_le_mul_right _ hS
      unfold SM at h1 h2; omega
    have hwc := wrS hcl
    simp only [tl_r3_Is_l0]
    rw [run_iteT (by simp; omega), run_req (inb hi)]
    simp only [getD_int hi]
    by_cases c1 : d.nodes[i].ino ≥ d.next
    · exact .inr ⟨fun h => by have := (h hi).1; omega, by rw [run_iteT (by simpa using c1), run_ret]⟩
    rw [run_iteF (by simpa using c1)]
    by_cases h0 : i = 0
    · subst h0
      rw [run_iteF (by simp), run_bind hb]
      cases c2 : b with
      | false => exact .inr ⟨fun h => by have := hb'.2 (h hi).2.2.1; rw [c2] at this; exact Bool.noConfusion this, by rw [run_iteT (by rfl), run_ret]⟩
      | true =>
        rw [run_iteF (by rfl), run_bind hnm, run_iteT (by simp), hwc]
        by_cases c3 : d.nodes[0].links = ((cntD d.nodes d.nodes[0].ino + 1 : Nat) : Int)
        case neg => exact .inr ⟨fun h => c3 (by have := (h hi).2.2.2.1; simp at this; omega), by rw [run_iteT (by simpa using fun e => c3 e.symm), run_ret]⟩
        rw [run_iteF (by simpa using c3.symm)]
        by_cases c4 : d.nodes[0].kind = 2
        · rw [run_iteT (by simpa using c4)]
          by_cases c5 : d.nodes[0].links = 1
          · exact .inl ⟨fun _ => ⟨by omega, fun h => absurd h (Nat.lt_irrefl _), hb'.1 c2, by simp; omega, fun _ => c5⟩, by rw [run_iteF (by rw [← c3]; simpa using c5), run_ret, hw]⟩
          · exact .inr ⟨fun h => c5 ((h hi).2.2.2.2 c4), by rw [run_iteT (by rw [← c3]; simpa using c5), run_ret]⟩
        · exact .inl ⟨fun _ => ⟨by omega, fun h => absurd h (Nat.lt_irrefl _), hb'.1 c2, by simp; omega, fun h => absurd h c4⟩, by rw [run_iteF (by simpa using c4), run_ret, hw]⟩
    · have hp := wrP (i := i) (by omega) (by unfold SM at hS; omega)
      have hi1 : i - 1 < d.nodes.length := by omega
      rw [run_iteT (by simp; omega)]
      simp only [hp]
      rw [run_req (inb hi1)]
      simp only [getD_int hi1]
      by_cases c6 : d.nodes[i].ino ≤ d.nodes[i - 1].ino
      · exact .inr ⟨fun h => by have := (h hi).2.1 (by omega); omega, by rw [run_iteT (by simpa using c6), run_ret]⟩
      rw [run_iteF (by simpa using c6), run_bind hb]
      cases c2 : b with
      | false => exact .inr ⟨fun h => by have := hb'.2 (h hi).2.2.1; rw [c2] at this; exact Bool.noConfusion this, by rw [run_iteT (by rfl), run_ret]⟩
      | true =>
        rw [run_iteF (by rfl), run_bind hnm, run_iteF (by simp; omega)]
        by_cases c3 : d.nodes[i].links = (cntD d.nodes d.nodes[i].ino : Int)
        case neg => exact .inr ⟨fun h => c3 (by have := (h hi).2.2.2.1; rw [if_neg h0] at this; omega), by rw [run_iteT (by simpa using fun e => c3 e.symm), run_ret]⟩
        rw [run_iteF (by simpa using c3.symm)]
        by_cases c4 : d.nodes[i].kind = 2
        · rw [run_iteT (by simpa using c4)]
          by_cases c5 : d.nodes[i].links = 1
          · exact .inl ⟨fun _ => ⟨by omega, fun _ => by omega, hb'.1 c2, by rw [if_neg h0]; omega, fun _ => c5⟩, by rw [run_iteF (by rw [← c3]; simpa using c5), run_ret, hw]⟩
          · exact .inr ⟨fun h => c5 ((h hi).2.2.2.2 c4), by rw [run_iteT (by rw [← c3]; simpa using c5), run_ret]⟩
        · exact .inl ⟨fun _ => ⟨by omega, fun _ => by omega, hb'.1 c2, by rw [if_neg h0]; omega, fun h => absurd h c4⟩, by rw [run_iteF (by simpa using c4), run_ret, hw]⟩
  · simp only [tl_r3_Is_l0]
    rw [run_iteF (by simp), run_ret]

theorem getN_mem {nodes : List Nod} {ino : Int} (h : (getN nodes ino).2 = true) : (getN nodes ino).1 ∈ nodes ∧ (getN nodes ino).1.ino = ino := by
  unfold getN at h ⊢
  split
  · rename_i n hn
    exact ⟨List.mem_of_find?_eq_some hn, by simpa using List.find?_some hn⟩
  · rename_i hn; rw [hn] at h; cases h

theorem nodeAt_inos {d : Dsk} (h : ∀ n ∈ d.nodes, NodOK d n) : ∀ n ∈ d.nodes, ∀ x ∈ n.names, x.ino ∈ d.nodes.map (·.ino) := by
  intro n hn x hx
  obtain ⟨i, hi, rfl⟩ := List.mem_iff_getElem.1 hx
  obtain ⟨h1, h2⟩ := getN_mem (((h n hn).named i hi).1)
  exact List.mem_map.2 ⟨_, h1, h2⟩

/-- What the reference asks of a disk; if it says so, it is so. -/
theorem e_r3_Is {d : Dsk} (hd : SmD d) (hs : ∀ n ∈ d.nodes, ∀ x ∈ n.names, x.name.length ≤ SM) : ∃ b, f_r3_Is d = some b ∧ (b = true → DskOK d) := by
  have no : ∀ {P : Prop}, ((false = true) → P) := fun e => by cases e
  obtain ⟨b, hu⟩ := e_r3_Used hd
  simp only [f_r3_Is, t_r3_Is]
  rw [run_bind hu]
  by_cases c1 : d.blocks < 0
  · exact ⟨false, by rw [run_iteT (by simpa using c1), run_ret], no⟩
  rw [run_iteF (by simpa using c1)]
  by_cases c2 : d.blocks > 1048576
  · exact ⟨false, by rw [run_iteT (by simpa using c2), run_ret], no⟩
  rw [run_iteF (by simpa using c2)]
  by_cases c3 : d.inodes < 1
  · exact ⟨false, by rw [run_iteT (by simpa using c3), run_ret], no⟩
  rw [run_iteF (by simpa using c3)]
  by_cases c4 : d.inodes > 4096
  · exact ⟨false, by rw [run_iteT (by simpa using c4), run_ret], no⟩
  rw [run_iteF (by simpa using c4)]
  by_cases c5 : b > d.blocks
  · exact ⟨false, by rw [run_iteT (by simpa using c5), run_ret], no⟩
  rw [run_iteF (by simpa using c5)]
  by_cases c6 : (d.nodes.length : Int) > d.inodes
  · exact ⟨false, by rw [run_iteT (by simpa using c6), run_ret], no⟩
  rw [run_iteF (by simpa using c6)]
  by_cases c7 : d.next < 1
  · exact ⟨false, by rw [run_iteT (by simpa using c7), run_ret], no⟩
  rw [run_iteF (by simpa using c7)]
  by_cases c8 : d.next ≥ 4611686018427387904
  · exact ⟨false, by rw [run_iteT (by simpa using c8), run_ret], no⟩
  rw [run_iteF (by simpa using c8)]
  by_cases c9 : d.nodes.length = 0
  · exact ⟨false, by rw [run_iteT (by simp [List.length_eq_zero_iff.1 c9]), run_ret], no⟩
  rw [run_iteF (by simpa using fun h => c9 (by rw [h]; rfl))]
  have h0 : 0 < d.nodes.length := by omega
  have e0 : d.nodes.getD (Int.toNat 0) GT.nod.nought = d.nodes[0] := getD_at h0
  rw [run_req (by omega), e0]
  by_cases c10 : d.nodes[0].ino = 1
  case neg => exact ⟨false, by rw [run_iteT (by simpa using c10), run_ret], no⟩
  rw [run_iteF (by simpa using c10), run_req (by omega)]
  by_cases c11 : d.nodes[0].kind = 2
  case neg => exact ⟨false, by rw [run_iteT (by simpa using c11), run_ret], no⟩
  rw [run_iteF (by simpa using c11)]
  rcases e_Is_nodes hd hs with ⟨a, e⟩ | ⟨a, e⟩
  · have hmem : ∀ n ∈ d.nodes, ∃ i, ∃ h : i < d.nodes.length, d.nodes[i]'h = n := fun n hn => List.mem_iff_getElem.1 hn
    have hnodes : ∀ n ∈ d.nodes, NodOK d n := fun n hn => by
      obtain ⟨i, hi, rfl⟩ := hmem n hn
      exact (a i hi hi).2.2.1
    have hin := nodeAt_inos hnodes
    have hr : f_r3_reached d 1 16 [1] = some (reachN d.nodes 16 1 [1]) := recN_rec mono_reached (e_reached hd hin 16 (by omega) 1 [1] ⟨by simp, fun x hx => by simp at hx; subst hx; exact List.mem_map.2 ⟨_, List.getElem_mem h0, c10⟩⟩)
    rw [run_bind e, run_caseR, run_bind hr]
    have ok : DskOK d := ⟨by omega, by omega, by omega, by omega, by omega, by omega, by omega, ⟨h0, c10, c11⟩, fun n hn => by obtain ⟨i, hi, rfl⟩ := hmem n hn; exact (a i hi hi).1,
      fun i hi => by have := (a (i + 1) hi hi).2.1 (by omega); simpa using this, hnodes, fun i hi => (a i hi hi).2.2.2.1, fun i hi => (a i hi hi).2.2.2.2⟩
    cases (reachN d.nodes 16 1 [1]).2 with
    | true => rw [run_iteT (by rfl), run_ret]; exact ⟨_, rfl, fun _ => ok⟩
    | false => rw [run_iteF (by rfl), run_ret]; exact ⟨_, rfl, no⟩
  · rw [run_bind e, run_caseL, run_ret]
    exact ⟨false, rfl, no⟩

end Go.Proofs.Ytmkmjjodiicmlaa.VS
