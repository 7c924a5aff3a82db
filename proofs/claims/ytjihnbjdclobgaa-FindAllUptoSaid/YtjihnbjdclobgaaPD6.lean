/- The directories of a disk are a tree. Conditions: none. -/
import Derived.Test.YtjihnbjdclobgaaPD5
namespace Go.Proofs.Ytjihnbjdclobgaa.VS
set_option maxRecDepth 100000
set_option linter.unusedVariables false
set_option linter.unusedSimpArgs false

theorem two_leN {a : Int} : ∀ {l : List Nam} (i j : Nat) (hij : i < j) (hj : j < l.length), (l[i]'(by omega)).ino = a → l[j].ino = a → 2 ≤ cntN l a
  | [], i, j, _, hj, _, _ => by simp at hj
  | c :: l, 0, j + 1, _, hj, h1, h2 => by
    have h1 : c.ino = a := h1
    have h2 : (l[j]'(by simpa using hj)).ino = a := h2
    have : 0 < cntN l a := List.countP_pos_iff.2 ⟨_, List.getElem_mem (by simpa using hj), by simpa using h2⟩
    simp only [cntN] at this ⊢
    rw [List.countP_cons_of_pos (by simpa using h1)]
    omega
  | c :: l, i + 1, j + 1, hij, hj, h1, h2 => by
    have := two_leN (l := l) i j (by omega) (by simpa using hj) h1 h2
    simp only [cntN] at this ⊢
    rw [List.countP_cons]
    omega

theorem cntD_mem {a : Int} : ∀ {l : List Nod} {n : Nod}, n ∈ l → cntN n.names a ≤ cntD l a
  | c :: l, n, h => by
    simp only [cntD, List.map_cons, List.sum_cons]
    rcases List.mem_cons.1 h with rfl | h
    · omega
    · have := cntD_mem (a := a) h
      simp only [cntD] at this; omega

theorem two_leD {a : Int} : ∀ {l : List Nod} (i j : Nat) (hij : i < j) (hj : j < l.length), 0 < cntN (l[i]'(by omega)).names a → 0 < cntN l[j].names a → 2 ≤ cntD l a
  | [], i, j, _, hj, _, _ => by simp at hj
  | c :: l, 0, j + 1, _, hj, h1, h2 => by
    have h1 : 0 < cntN c.names a := h1
    have h2 : 0 < cntN (l[j]'(by simpa using hj)).names a := h2
    have := cntD_mem (a := a) (List.getElem_mem (l := l) (by simpa using hj : j < l.length))
    simp only [cntD, List.map_cons, List.sum_cons] at this ⊢
    omega
  | c :: l, i + 1, j + 1, hij, hj, h1, h2 => by
    have := two_leD (l := l) i j (by omega) (by simpa using hj) h1 h2
    simp only [cntD, List.map_cons, List.sum_cons] at this ⊢
    omega

theorem cnt_pos {l : List Nam} {x : Nam} (h : x ∈ l) : 0 < cntN l x.ino := List.countP_pos_iff.2 ⟨x, h, by simp⟩

theorem getN_self {l : List Nod} (hs : SortI l) {n : Nod} (h : n ∈ l) : getN l n.ino = (n, true) := by
  obtain ⟨i, hi, rfl⟩ := List.mem_iff_getElem.1 h
  have : l.find? (fun m => m.ino == l[i].ino) = some l[i] := find_place (fun j hj hl => by
    have := hs j i hj hi
    simp only at this
    simp; omega) hi (by simp)
  unfold getN; rw [this]

section
variable {d : Dsk} (ok : DskOK d)
include ok

theorem dir_cnt {v : Nod} (hv : v ∈ d.nodes) (hk : v.kind = 2) : cntD d.nodes v.ino ≤ 1 ∧ (v.ino = 1 → cntD d.nodes v.ino = 0) := by
  obtain ⟨i, hi, rfl⟩ := List.mem_iff_getElem.1 hv
  have h1 := ok.links i hi
  have h2 := ok.dirs i hi hk
  rw [h2] at h1
  refine ⟨by split at h1 <;> omega, fun e => ?_⟩
  have : i = 0 := by
    obtain ⟨h0, r1, _⟩ := ok.root
    by_cases c : i = 0
    · exact c
    · have := ok.sortI 0 i (by omega) hi
      simp only at this; omega
  subst this
  simp at h1; omega

theorem root_node : ∃ r, getN d.nodes 1 = (r, true) ∧ r ∈ d.nodes ∧ r.ino = 1 ∧ r.kind = 2 := by
  obtain ⟨h0, r1, r2⟩ := ok.root
  refine ⟨d.nodes[0], ?_, List.getElem_mem h0, r1, r2⟩
  have := getN_self ok.sortI (List.getElem_mem h0)
  rw [r1] at this; exact this

theorem parent_unique {v : Nod} (hv : v ∈ d.nodes) (hk : v.kind = 2) {m m' : Nod} (hm : m ∈ d.nodes) (hm' : m' ∈ d.nodes) {x x' : Nam} (hx : x ∈ m.names) (hx' : x' ∈ m'.names) (e : x.ino = v.ino) (e' : x'.ino = v.ino) : m = m' := by
  have hc := (dir_cnt ok hv hk).1
  have p1 := cnt_pos hx
  have p2 := cnt_pos hx'
  rw [e] at p1
  rw [e'] at p2
  obtain ⟨i, hi, rfl⟩ := List.mem_iff_getElem.1 hm
  obtain ⟨j, hj, rfl⟩ := List.mem_iff_getElem.1 hm'
  rcases Nat.lt_trichotomy i j with h | h | h
  · have := two_leD i j h hj p1 p2; omega
  · subst h; rfl
  · have := two_leD j i h hi p2 p1; omega

theorem root_unnamed {m : Nod} (hm : m ∈ d.nodes) {x : Nam} (hx : x ∈ m.names) : x.ino ≠ 1 := by
  intro e
  obtain ⟨r, _, h2, h3, h4⟩ := root_node ok
  have := (dir_cnt ok h2 h4).2 h3
  have h5 := cntD_mem (a := r.ino) hm
  have h6 := cnt_pos hx
  rw [e] at h6
  rw [h3] at this h5; omega

/-- From the root down: the numbers, the last one first. -/
def Chain (nodes : List Nod) : List Int → Prop
  | [] => False
  | [a] => a = 1
  | a :: b :: r => (∃ m ∈ nodes, m.ino = b ∧ ∃ x ∈ m.names, x.ino = a) ∧ (∃ v ∈ nodes, v.ino = a ∧ v.kind = 2) ∧ Chain nodes (b :: r)

theorem chain_unique : ∀ {r r' : List Int} {a : Int}, Chain d.nodes (a :: r) → Chain d.nodes (a :: r') → r = r'
  | [], [], _, _, _ => rfl
  | [], b :: s, a, h, ⟨⟨m, hm, _, x, hx, e⟩, _⟩ => absurd (e.trans h) (root_unnamed ok hm hx)
  | b :: s, [], a, ⟨⟨m, hm, _, x, hx, e⟩, _⟩, h => absurd (e.trans h) (root_unnamed ok hm hx)
  | b :: s, b' :: s', a, ⟨⟨m, hm, em, x, hx, e⟩, ⟨v, hv, ev, kv⟩, h⟩, ⟨⟨m', hm', em', x', hx', e'⟩, _, h'⟩ => by
    have hmm := parent_unique ok hv kv hm hm' hx hx' (e.trans ev.symm) (e'.trans ev.symm)
    subst hmm
    have : b = b' := em.symm.trans em'
    subst this
    rw [chain_unique h h']

omit ok in
theorem chain_suffix {nodes : List Nod} : ∀ {r s : List Int}, s ≠ [] → Chain nodes (r ++ s) → Chain nodes s
  | [], s, _, h => h
  | [a], s, hs, h => by
    cases s with
    | nil => exact absurd rfl hs
    | cons b s => exact h.2.2
  | a :: b :: r, s, hs, h => chain_suffix (r := b :: r) hs h.2.2

theorem chain_nodup : ∀ {c : List Int}, Chain d.nodes c → c.Nodup
  | [a], _ => by simp
  | a :: b :: r, h => by
    refine List.nodup_cons.2 ⟨fun hm => ?_, chain_nodup h.2.2⟩
    obtain ⟨r1, r2, e⟩ := List.append_of_mem hm
    rw [e] at h
    have h2 := chain_suffix (r := a :: r1) (s := a :: r2) (by simp) h
    have := chain_unique ok h h2
    have := congrArg List.length this
    simp at this
    omega

theorem chain_inos : ∀ {c : List Int}, Chain d.nodes c → ∀ a ∈ c, ∃ v ∈ d.nodes, v.ino = a ∧ v.kind = 2
  | [a], h, x, hx => by
    simp at hx; subst hx
    obtain ⟨r, _, h2, h3, h4⟩ := root_node ok
    exact ⟨r, h2, by rw [h3]; exact h.symm, h4⟩
  | a :: b :: r, h, x, hx => by
    rcases List.mem_cons.1 hx with rfl | hx
    · exact h.2.1
    · exact chain_inos h.2.2 x hx

theorem chain_len {c : List Int} (h : Chain d.nodes c) : c.length ≤ d.nodes.length := by
  have := len_of_nodup (chain_nodup ok h) (m := d.nodes.map (·.ino)) fun a ha => by
    obtain ⟨v, h1, h2, _⟩ := chain_inos ok h a ha
    exact List.mem_map.2 ⟨v, h1, h2⟩
  simpa using this

theorem chain_next {a : Int} {r : List Int} (h : Chain d.nodes (a :: r)) {x : Nam} (hx : x ∈ (getN d.nodes a).1.names) (hk : (getN d.nodes x.ino).1.kind = 2) : Chain d.nodes (x.ino :: a :: r) := by
  obtain ⟨v, h1, h2, h3⟩ := chain_inos ok h a List.mem_cons_self
  have e := getN_self ok.sortI h1
  rw [h2] at e
  rw [e] at hx
  refine ⟨⟨v, h1, h2, x, hx, rfl⟩, ?_, h⟩
  cases hg : (getN d.nodes x.ino).2 with
  | true => obtain ⟨g1, g2⟩ := getN_mem hg; exact ⟨_, g1, g2, hk⟩
  | false =>
    exfalso
    unfold getN at hg hk
    split at hg
    · cases hg
    · rename_i hn; rw [hn] at hk; cases hk

theorem deep_of : ∀ (k : Nat) (a : Int) (r : List Int), Chain d.nodes (a :: r) → d.nodes.length + 1 ≤ k + (a :: r).length → Deep d.nodes k (getN d.nodes a).1
  | 0, a, r, h, hl => by have := chain_len ok h; omega
  | k + 1, a, r, h, hl => fun x hx hk => deep_of k x.ino (a :: r) (chain_next ok h hx hk) (by simp at hl ⊢; omega)

/-! How many paths there are -/

omit ok in
def visC (nodes : List Nod) : Nat → List Int → Nod → List (List Int)
  | 0, _, _ => []
  | k + 1, c, n => c :: n.names.flatMap fun x => if (getN nodes x.ino).1.kind = 2 then visC nodes k (x.ino :: c) (getN nodes x.ino).1 else []

theorem visC_chain : ∀ (k : Nat) (a : Int) (r : List Int), Chain d.nodes (a :: r) → ∀ v ∈ visC d.nodes k (a :: r) (getN d.nodes a).1, Chain d.nodes v ∧ (a :: r) <:+ v
  | 0, a, r, h, v, hv => by simp [visC] at hv
  | k + 1, a, r, h, v, hv => by
    rw [visC] at hv
    rcases List.mem_cons.1 hv with rfl | hv
    · exact ⟨h, List.suffix_refl _⟩
    · obtain ⟨x, hx, hv⟩ := List.mem_flatMap.1 hv
      split at hv
      · rename_i hk
        obtain ⟨h1, h2⟩ := visC_chain k x.ino (a :: r) (chain_next ok h hx hk) v hv
        exact ⟨h1, (List.suffix_cons x.ino (a :: r)).trans h2⟩
      · simp at hv

omit ok in
theorem suffix_eq {α : Type} {x y : α} {c v : List α} (h1 : (x :: c) <:+ v) (h2 : (y :: c) <:+ v) : x = y := by
  obtain ⟨s, rfl⟩ := h1
  obtain ⟨t, e⟩ := h2
  have hl : t.length = s.length := by have := congrArg List.length e; simp at this; omega
  have := List.append_inj e hl
  exact (List.cons.inj this.2).1.symm

theorem visC_nodup : ∀ (k : Nat) (a : Int) (r : List Int), Chain d.nodes (a :: r) → (visC d.nodes k (a :: r) (getN d.nodes a).1).Nodup
  | 0, a, r, h => by simp [visC]
  | k + 1, a, r, h => by
    rw [visC]
    refine List.nodup_cons.2 ⟨fun hm => ?_, ?_⟩
    · obtain ⟨x, hx, hv⟩ := List.mem_flatMap.1 hm
      split at hv
      · rename_i hk
        have := (visC_chain ok k x.ino (a :: r) (chain_next ok h hx hk) _ hv).2.length_le
        simp at this; omega
      · simp at hv
    · unfold List.Nodup
      rw [List.pairwise_flatMap]
      refine ⟨fun x hx => ?_, ?_⟩
      · split
        · rename_i hk; exact visC_nodup k x.ino (a :: r) (chain_next ok h hx hk)
        · simp
      · rw [List.pairwise_iff_getElem]
        intro i j hi hj hij v hv w hw
        split at hv
        · rename_i hk
          split at hw
          · rename_i hk'
            obtain ⟨c1, s1⟩ := visC_chain ok k _ _ (chain_next ok h (List.getElem_mem hi) hk) v hv
            obtain ⟨c2, s2⟩ := visC_chain ok k _ _ (chain_next ok h (List.getElem_mem hj) hk') w hw
            rintro rfl
            have e := suffix_eq s1 s2
            -- two entries of one directory
            obtain ⟨_, ⟨u, hu, eu, ku⟩, _⟩ := chain_next ok h (List.getElem_mem hi) hk
            obtain ⟨z, hz, ez, kz⟩ := chain_inos ok h a List.mem_cons_self
            have eg := getN_self ok.sortI hz
            rw [ez] at eg
            have h2 := two_leN (a := u.ino) i j hij hj eu.symm (by rw [← e]; exact eu.symm)
            rw [eg] at h2
            have h3 := cntD_mem (a := u.ino) hz
            have h4 := (dir_cnt ok hu ku).1
            simp only at h2
            omega
          · simp at hw
        · simp at hv

omit ok in
theorem sum_of_nodup {α : Type} [DecidableEq α] (w : α → Nat) : ∀ {l m : List α}, l.Nodup → (∀ x ∈ l, x ∈ m) → (l.map w).sum ≤ (m.map w).sum
  | [], m, _, _ => Nat.zero_le _
  | a :: l, m, hn, hs => by
    have ha : a ∈ m := hs a List.mem_cons_self
    have hn' := List.nodup_cons.1 hn
    have h1 : ∀ x ∈ l, x ∈ m.erase a := fun x hx => (List.mem_erase_of_ne (fun e => by subst e; exact hn'.1 hx)).2 (hs x (List.mem_cons_of_mem _ hx))
    have h2 := sum_of_nodup w hn'.2 h1
    have h3 : (m.map w).sum = w a + ((m.erase a).map w).sum := by
      have := (List.perm_cons_erase ha).map w
      have := this.sum_nat
      simpa using this
    simp only [List.map_cons, List.sum_cons]
    omega

def totN (nodes : List Nod) : Nat := (nodes.map fun n => n.names.length).sum

omit ok in
theorem under_len (nodes : List Nod) : ∀ (k : Nat) (l : List Str) (a : Int) (r : List Int), (underN nodes k l (getN nodes a).1).length = ((visC nodes k (a :: r) (getN nodes a).1).map fun v => (getN nodes (v.headD 0)).1.names.length).sum
  | 0, l, a, r => by simp [underN, visC]
  | k + 1, l, a, r => by
    rw [underN, visC, List.map_cons, List.sum_cons]
    have : ∀ (ns : List Nam), (ns.flatMap fun x => (l ++ [x.name]) :: (if (getN nodes x.ino).1.kind = 2 then underN nodes k (l ++ [x.name]) (getN nodes x.ino).1 else [])).length =
        ns.length + ((ns.flatMap fun x => if (getN nodes x.ino).1.kind = 2 then visC nodes k (x.ino :: a :: r) (getN nodes x.ino).1 else []).map fun v => (getN nodes (v.headD 0)).1.names.length).sum := by
      intro ns
      induction ns with
      | nil => simp
      | cons x ns ih =>
        simp only [List.flatMap_cons, List.length_append, List.length_cons, List.map_append, List.sum_append, ih]
        split
        · have := under_len nodes k (l ++ [x.name]) x.ino (a :: r)
          rw [this]; omega
        · simp; omega
    rw [this]
    rfl

theorem under_le (k : Nat) (l : List Str) : (underN d.nodes k l (getN d.nodes 1).1).length ≤ totN d.nodes := by
  have hc : Chain d.nodes [1] := rfl
  rw [under_len d.nodes k l 1 []]
  have hn := visC_nodup ok k 1 [] hc
  have hmap : ((visC d.nodes k [1] (getN d.nodes 1).1).map fun v => v.headD 0).Nodup := by
    unfold List.Nodup
    rw [List.pairwise_map]
    refine List.Pairwise.imp_of_mem (fun {v w} hv hw hne e => hne ?_) hn
    have c1 := (visC_chain ok k 1 [] hc v hv).1
    have c2 := (visC_chain ok k 1 [] hc w hw).1
    cases v with
    | nil => exact c1.elim
    | cons a v =>
      cases w with
      | nil => exact c2.elim
      | cons b w =>
        have e : a = b := e
        subst e
        rw [chain_unique ok c1 c2]
  have hsub : ∀ a ∈ (visC d.nodes k [1] (getN d.nodes 1).1).map (fun v => v.headD 0), a ∈ d.nodes.map (·.ino) := by
    intro a ha
    obtain ⟨v, hv, rfl⟩ := List.mem_map.1 ha
    have c1 := (visC_chain ok k 1 [] hc v hv).1
    cases v with
    | nil => exact c1.elim
    | cons b v =>
      obtain ⟨n, h1, h2, _⟩ := chain_inos ok c1 b List.mem_cons_self
      exact List.mem_map.2 ⟨n, h1, h2⟩
  have := sum_of_nodup (fun a => (getN d.nodes a).1.names.length) hmap hsub
  rw [List.map_map, List.map_map] at this
  refine Nat.le_trans this (Nat.le_of_eq ?_)
  unfold totN
  congr 1
  refine List.map_congr_left fun n hn => ?_
  simp only [Function.comp]
  rw [getN_self ok.sortI hn]

end
end Go.Proofs.Ytjihnbjdclobgaa.VS
