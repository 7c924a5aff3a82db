/- Chapter 3's answers, in plain words: copies, what is found by number. Conditions: none. -/
import Derived.Test.YtmkmjjodiicmlaaYEZ
namespace Go.Proofs.Ytmkmjjodiicmlaa.VS
set_option maxRecDepth 100000
set_option linter.unusedVariables false
set_option linter.unusedSimpArgs false

/-- Not too large. -/
def SmF (f : Fil) : Prop := f.blocks.length ≤ SM ∧ ∀ b ∈ f.blocks, b.data.length ≤ SM
def SmN (n : Nod) : Prop := n.names.length ≤ SM ∧ SmF n.file
def SmD (d : Dsk) : Prop := d.nodes.length ≤ SM ∧ ∀ n ∈ d.nodes, SmN n

abbrev nodZ : Nod := Nod.mk (0 : Int) (0 : Int) (0 : Int) (0 : Int) (Fil.mk (0 : Int) []) [] []
theorem smN_z : SmN nodZ := ⟨by simp [nodZ, SM], by simp [nodZ, SM], by simp [nodZ]⟩

theorem e_r2_Copy {f : Fil} (h : SmF f) : f_r2_Copy f = some f := by
  obtain ⟨s, bs⟩ := f
  obtain ⟨h1, h2⟩ := h
  simp only at h1 h2
  have hl : L_r2_Copy_l0 (⟨s, bs⟩, Fil.mk 0 [], Fil.mk s [], 0) = some (Fil.mk 0 [], ⟨s, bs⟩) := by
    refine loop_to (fun i => (Fil.mk s bs, Fil.mk 0 [], Fil.mk s (bs.take i), (i : Int))) bs.length (fun i hi => ?_) ?_
    · have hm : bs[i].data.length ≤ SM := h2 _ (List.getElem_mem hi)
      have ht : (bs.take i ++ [bs[i]]).length ≤ SM := by simp; omega
      have e : bs.take (i + 1) = bs.take i ++ [bs[i]] := by rw [List.take_add_one, List.getElem?_eq_getElem hi]; rfl
      have hw := wrS (i := i) (by unfold SM at h1; omega)
      simp only [tl_r2_Copy_l0]
      rw [run_iteT (by simp; omega), run_req (inb hi), run_req (inb hi)]
      simp only [getD_int hi]
      rw [run_req (rmM hm (by omega)), run_same, run_req ⟨trivial, rmM ht (by omega)⟩, run_same, run_ret, hw, e]
    · simp only [tl_r2_Copy_l0]
      rw [run_iteF (by simp), run_same, run_ret, List.take_length]
  simp only [f_r2_Copy, t_r2_Copy]
  rw [run_bind hl, run_same, run_ret]

theorem e_r3_node {n : Nod} (h : SmN n) : f_r3_node n = some n := by
  simp only [f_r3_node, t_r3_node]
  rw [run_bind (e_r2_Copy h.2), run_req (rmM h.1 (by omega)), run_same, run_ret]

/-- What stands under a number. -/
def getN (l : List Nod) (ino : Int) : Nod × Bool :=
  match l.find? fun n => n.ino == ino with
  | some n => (n, true)
  | none => (nodZ, false)

theorem e_r3_Get {d : Dsk} (h : SmD d) (ino : Int) : f_r3_Get d ino = some (getN d.nodes ino) := by
  have hl : L_r3_Get_l0 (ino, d, nodZ, 0) = _ := loop_find d.nodes (fun n => n.ino == ino) (fun i => (ino, d, nodZ, (i : Int))) (fun i n => .inl (n, true)) (.inr nodZ)
    (fun i hi hp _ => by
      have hw := wrS (i := i) (by have := h.1; unfold SM at this; omega)
      simp only [tl_r3_Get_l0]
      rw [run_iteT (by simp; omega), run_req (inb hi)]
      simp only [getD_int hi]
      rw [run_iteF hp, run_ret, hw])
    (fun i hi hp _ => by
      simp only [tl_r3_Get_l0]
      rw [run_iteT (by simp; omega), run_req (inb hi)]
      simp only [getD_int hi]
      rw [run_iteT hp, run_req (inb hi), run_bind (e_r3_node (h.2 _ (List.getElem_mem hi))), run_ret])
    (fun _ => by
      simp only [tl_r3_Get_l0]
      rw [run_iteF (by simp), run_ret])
  simp only [f_r3_Get, t_r3_Get]
  rw [run_bind hl]
  unfold getN
  cases hf : d.nodes.find? (fun n => n.ino == ino) with
  | none =>
    simp only [hf]
    cases d.nodes.findIdx? (fun n => n.ino == ino) <;> rfl
  | some n =>
    have : ∃ i, d.nodes.findIdx? (fun n => n.ino == ino) = some i := by
      have h1 : (d.nodes.findIdx? (fun n => n.ino == ino)).isSome := by
        rw [List.findIdx?_isSome]
        have := List.find?_some hf
        exact List.any_eq_true.2 ⟨n, List.mem_of_find?_eq_some hf, this⟩
      exact Option.isSome_iff_exists.1 h1
    obtain ⟨i, hi⟩ := this
    simp only [hf, hi]
    rfl

theorem getN_sm {l : List Nod} (h : ∀ n ∈ l, SmN n) (ino : Int) : SmN (getN l ino).1 := by
  unfold getN
  split
  · rename_i n hn; exact h n (List.mem_of_find?_eq_some hn)
  · exact smN_z

/-- A row of numbers that is looked up. -/
theorem e_r3_has (l : List Int) (x : Int) (hl : l.length ≤ SM) : f_r3_has l x = some (l.contains x) := by
  have h : L_r3_has_l0 (l, x, 0) = _ := loop_find l (fun n => n == x) (fun i => (l, x, (i : Int))) (fun i n => .inl true) (.inr ())
    (fun i hi hp _ => by
      have hw := wrS (i := i) (by unfold SM at hl; omega)
      simp only [tl_r3_has_l0]
      rw [run_iteT (by simp; omega), run_req (inb hi)]
      simp only [getD_int hi]
      rw [run_iteF hp, run_ret, hw])
    (fun i hi hp _ => by
      simp only [tl_r3_has_l0]
      rw [run_iteT (by simp; omega), run_req (inb hi)]
      simp only [getD_int hi]
      rw [run_iteT hp, run_ret])
    (fun _ => by
      simp only [tl_r3_has_l0]
      rw [run_iteF (by simp), run_ret])
  simp only [f_r3_has, t_r3_has]
  rw [run_bind h]
  cases hc : l.contains x with
  | true =>
    have hc := List.contains_iff_mem.1 hc
    have h1 : (l.find? (fun n => n == x)).isSome := by rw [List.find?_isSome]; exact ⟨x, hc, by simp⟩
    have h2 : (l.findIdx? (fun n => n == x)).isSome := by rw [List.findIdx?_isSome]; exact List.any_eq_true.2 ⟨x, hc, by simp⟩
    obtain ⟨a, ha⟩ := Option.isSome_iff_exists.1 h1
    obtain ⟨b, hb⟩ := Option.isSome_iff_exists.1 h2
    rw [ha, hb]; rfl
  | false =>
    have hc : ¬ x ∈ l := fun h => by rw [List.contains_iff_mem.2 h] at hc; cases hc
    have h1 : l.find? (fun n => n == x) = none := List.find?_eq_none.2 fun y hy => by simp; rintro rfl; exact hc hy
    rw [h1]
    cases l.findIdx? (fun n => n == x) <;> rfl

theorem e_r3_Used {d : Dsk} (h : SmD d) : ∃ b : Int, f_r3_Used d = some (b, (d.nodes.length : Int)) := by
  have hl : ∃ r, L_r3_Used_l0 (d, 0, 0) = some r ∧ r.1 = d := loop_inv (fun i p => ∃ b : Int, p = (d, b, (i : Int))) (fun r : Dsk × Int => r.1 = d) d.nodes.length
    (fun i p hi hp => by
      obtain ⟨b, rfl⟩ := hp
      have hw := wrS (i := i) (by have := h.1; unfold SM at this; omega)
      refine .inl ⟨(d, IntKind.i64.wrap (b + (d.nodes[i].file.blocks.length : Int)), ((i + 1 : Nat) : Int)), ?_, ⟨_, rfl⟩⟩
      simp only [tl_r3_Used_l0]
      rw [run_iteT (by simp; omega), run_req (inb hi), run_ret, hw, getD_int hi])
    (fun p hp => by
      obtain ⟨b, rfl⟩ := hp
      refine ⟨(d, b), ?_, rfl⟩
      simp only [tl_r3_Used_l0]
      rw [run_iteF (by simp), run_ret]) ⟨0, rfl⟩
  obtain ⟨r, h1, h2⟩ := hl
  refine ⟨r.2, ?_⟩
  simp only [f_r3_Used, t_r3_Used]
  rw [run_bind h1, run_ret, h2]

end Go.Proofs.Ytmkmjjodiicmlaa.VS
