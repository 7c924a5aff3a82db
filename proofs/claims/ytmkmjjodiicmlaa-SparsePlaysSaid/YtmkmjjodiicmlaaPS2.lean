/- Chapter 2: bytes, in plain words. Conditions: none. -/
import Derived.Test.YtmkmjjodiicmlaaPS1
namespace Go.Proofs.Ytmkmjjodiicmlaa.VS
set_option maxRecDepth 100000
set_option linter.unusedVariables false
set_option linter.unusedSimpArgs false

/-! ### Blocks, looked up -/

theorem blkAt_nil (k : Int) : blkAt [] k = none := rfl
theorem blkAt_cons (b : Blk) (r : List Blk) (k : Int) : blkAt (b :: r) k = if b.pos = k then some b.data else blkAt r k := by
  unfold blkAt
  rw [List.find?_cons]
  by_cases h : b.pos = k
  · simp [h]
  · have : (b.pos == k) = false := by simpa using h
    rw [this, if_neg h]

theorem sortB_cons {b : Blk} {r : List Blk} (h : SortB (b :: r)) : SortB r ∧ ∀ c ∈ r, b.pos < c.pos := by
  refine ⟨fun i j hij hj => h (i + 1) (j + 1) (by omega) (by simpa using hj), fun c hc => ?_⟩
  obtain ⟨i, hi, rfl⟩ := List.mem_iff_getElem.1 hc
  exact h 0 (i + 1) (by omega) (by simpa using hi)

theorem sortB_mk {b : Blk} {r : List Blk} (h : SortB r) (hb : ∀ c ∈ r, b.pos < c.pos) : SortB (b :: r) := by
  intro i j hij hj
  cases i with
  | zero =>
    obtain ⟨j, rfl⟩ : ∃ k, j = k + 1 := ⟨j - 1, by omega⟩
    exact hb _ (List.getElem_mem (by simpa using hj))
  | succ i =>
    obtain ⟨j, rfl⟩ : ∃ k, j = k + 1 := ⟨j - 1, by omega⟩
    exact h i j (by omega) (by simpa using hj)

theorem sortB_nil : SortB [] := fun i j hij hj => by simp at hj

theorem blkAt_none {l : List Blk} {k : Int} (h : ∀ c ∈ l, k < c.pos) : blkAt l k = none := by
  unfold blkAt
  have : l.find? (fun b => b.pos == k) = none := List.find?_eq_none.2 fun c hc => by have := h c hc; simp; omega
  rw [this]; rfl

theorem putB_at : ∀ {l : List Blk} (h : SortB l) (k : Int) (d : List UInt8) (j : Int), blkAt (putB l k d) j = if j = k then some d else blkAt l j
  | [], _, k, d, j => by
    rw [putB, blkAt_cons, blkAt_nil]
    by_cases e : j = k
    · simp [e]
    · have : ¬ k = j := fun h => e h.symm
      simp [e, this]
  | b :: r, h, k, d, j => by
    obtain ⟨h1, h2⟩ := sortB_cons h
    rw [putB]
    split
    · rename_i c
      rw [blkAt_cons, putB_at h1, blkAt_cons]
      by_cases e : b.pos = j
      · have : ¬ j = k := by omega
        simp [e, this]
      · simp [e]
    · split
      · rename_i c
        rw [blkAt_cons, blkAt_cons]
        by_cases e : j = k
        · simp [e]
        · have e1 : ¬ k = j := fun h => e h.symm
          have e2 : ¬ b.pos = j := by omega
          simp [e, e1, e2]
      · rename_i c1 c2
        rw [blkAt_cons]
        by_cases e : j = k
        · simp [e]
        · have e1 : ¬ k = j := fun h => e h.symm
          simp [e, e1]

theorem putB_mem : ∀ {l : List Blk} {k : Int} {d : List UInt8} {c : Blk}, c ∈ putB l k d → c = ⟨k, d⟩ ∨ c ∈ l
  | [], k, d, c, h => by simp [putB] at h; exact .inl h
  | b :: r, k, d, c, h => by
    rw [putB] at h
    split at h
    · rcases List.mem_cons.1 h with rfl | h
      · exact .inr List.mem_cons_self
      · rcases putB_mem h with h | h
        · exact .inl h
        · exact .inr (List.mem_cons_of_mem _ h)
    · split at h
      · rcases List.mem_cons.1 h with rfl | h
        · exact .inl rfl
        · exact .inr (List.mem_cons_of_mem _ h)
      · rcases List.mem_cons.1 h with rfl | h
        · exact .inl rfl
        · exact .inr h

theorem putB_sort : ∀ {l : List Blk} (h : SortB l) (k : Int) (d : List UInt8), SortB (putB l k d)
  | [], _, k, d => by intro i j hij hj; simp [putB] at hj; omega
  | b :: r, h, k, d => by
    obtain ⟨h1, h2⟩ := sortB_cons h
    rw [putB]
    split
    · rename_i c
      refine sortB_mk (putB_sort h1 k d) fun x hx => ?_
      rcases putB_mem hx with rfl | hx
      · exact c
      · exact h2 x hx
    · split
      · rename_i c
        exact sortB_mk h1 fun x hx => by have := h2 x hx; show k < x.pos; omega
      · refine sortB_mk h fun x hx => ?_
        show k < x.pos
        rcases List.mem_cons.1 hx with rfl | hx
        · omega
        · have := h2 x hx; omega

theorem putB_length : ∀ {l : List Blk} (h : SortB l) (k : Int) (d : List UInt8), (putB l k d).length = l.length + if (blkAt l k).isSome then 0 else 1
  | [], _, k, d => rfl
  | b :: r, h, k, d => by
    obtain ⟨h1, h2⟩ := sortB_cons h
    rw [putB, blkAt_cons]
    split
    · rename_i c
      rw [if_neg (show ¬ b.pos = k by omega), List.length_cons, putB_length h1, List.length_cons]
      omega
    · split
      · rename_i c; simp
      · rename_i c1 c2
        have : blkAt r k = none := blkAt_none fun x hx => by have := h2 x hx; omega
        rw [this]; simp

/-! ### A file that is such -/

structure FilS (l : List Blk) : Prop where
  sort : SortB l
  len : ∀ b ∈ l, b.data.length = 16

theorem filS_nil : FilS [] := ⟨sortB_nil, fun b hb => by simp at hb⟩
theorem FilS.put {l : List Blk} (h : FilS l) {k : Int} {d : List UInt8} (hd : d.length = 16) : FilS (putB l k d) :=
  ⟨putB_sort h.sort k d, fun b hb => by
    rcases putB_mem hb with rfl | hb
    · exact hd
    · exact h.len b hb⟩
theorem FilS.at {l : List Blk} (h : FilS l) {k : Int} {d : List UInt8} (hd : blkAt l k = some d) : d.length = 16 := by
  unfold blkAt at hd
  cases hf : l.find? (fun b => b.pos == k) with
  | none => rw [hf] at hd; cases hd
  | some b => rw [hf] at hd; cases hd; exact h.len b (List.mem_of_find?_eq_some hf)
theorem FilS.val {l : List Blk} (h : FilS l) (k : Int) : (blockV l k).1.length = 16 := by
  unfold blockV
  cases hb : blkAt l k with
  | none => rfl
  | some d => exact h.at hb
theorem FilS.sm {f : Fil} (h : FilS f.blocks) (hl : f.blocks.length ≤ SM) : SmF f := ⟨hl, fun b hb => by rw [h.len b hb]; unfold SM; omega⟩

/-- The byte at a place. -/
def bAt (l : List Blk) (i : Nat) : UInt8 := (blockV l ((i / 16 : Nat) : Int)).1.getD (i % 16) 0

theorem bAt_put {l : List Blk} (h : SortB l) {k : Nat} {d : List UInt8} (i : Nat) : bAt (putB l (k : Int) d) i = if i / 16 = k then d.getD (i % 16) 0 else bAt l i := by
  unfold bAt blockV
  rw [putB_at h]
  by_cases e : i / 16 = k
  · rw [if_pos (by omega), if_pos e]
  · rw [if_neg (by omega), if_neg e]

/-! ### Reading -/

def readL (l : List Blk) (a m : Nat) : List UInt8 := (List.range' a m).map (bAt l)

theorem readL_len (l : List Blk) (a m : Nat) : (readL l a m).length = m := by simp [readL]
theorem readL_add (l : List Blk) (a m n : Nat) : readL l a m ++ readL l (a + m) n = readL l a (m + n) := by
  unfold readL
  rw [← List.map_append]
  congr 1
  simp

/-- Within one block. -/
theorem readL_block {l : List Blk} (h : FilS l) (i m : Nat) (hm : i % 16 + m ≤ 16) : ((blockV l ((i / 16 : Nat) : Int)).1.take (i % 16 + m)).drop (i % 16) = readL l i m := by
  have hl := h.val ((i / 16 : Nat) : Int)
  apply List.ext_getElem
  · rw [List.length_drop, List.length_take, readL_len, hl]; omega
  · intro j h1 h2
    rw [readL_len] at h2
    rw [List.getElem_drop, List.getElem_take]
    simp only [readL, List.getElem_map, List.getElem_range']
    unfold bAt
    have e1 : (i + 1 * j) / 16 = i / 16 := by omega
    have e2 : (i + 1 * j) % 16 = i % 16 + j := by omega
    rw [e1, e2, getD_at (by rw [hl]; omega)]

theorem e_sparse_Read {f : Fil} (hf : FilS f.blocks) (hl : f.blocks.length ≤ SM) (sz a n : Nat) (hsz : f.size = (sz : Int)) (ha : a ≤ 1000000) (hn : n ≤ 1000000) : f_sparse_Read f (a : Int) (n : Int) = some (readL f.blocks a (min (a + n) sz - a)) := by
  have hend : IntKind.i64.wrap ((a : Int) + (n : Int)) = ((a + n : Nat) : Int) := by rw [wr (by omega) (by omega)]; omega
  have hE : (if f.size < IntKind.i64.wrap ((a : Int) + (n : Int)) then f.size else IntKind.i64.wrap ((a : Int) + (n : Int))) = ((min (a + n) sz : Nat) : Int) := by
    rw [hend, hsz]
    split <;> omega
  have hloop : ∃ r, L_sparse_Read_l0 ((a : Int), (n : Int), f, [], (a : Int)) = some r ∧ r = readL f.blocks a (min (a + n) sz - a) := by
    have := fixT_ind (t := fun q : Int × Int × Fil × List UInt8 × Int => tl_sparse_Read_l0 q.1 q.2.1 q.2.2.1 q.2.2.2.1 q.2.2.2.2) (fun p => ∃ m : Nat, p = ((a : Int), (n : Int), f, readL f.blocks a m, ((a + m : Nat) : Int)) ∧ (m = 0 ∨ a + m ≤ min (a + n) sz))
      (fun _ => readL f.blocks a (min (a + n) sz - a)) (fun p => (min (a + n) sz + 1 - p.2.2.2.2.toNat)) (fun p hp => ?_) ((a : Int), (n : Int), f, [], (a : Int)) ⟨0, by simp [readL], .inl rfl⟩
    · exact ⟨_, this, rfl⟩
    · obtain ⟨m, rfl, hm⟩ := hp
      simp only [tl_sparse_Read_l0, hE]
      by_cases c : a + m < min (a + n) sz
      · left
        have hw1 : IntKind.i64.wrap ((((a + m : Nat) : Int)).tdiv 16) = (((a + m) / 16 : Nat) : Int) := by rw [tdivN, wr (by omega) (by omega)]
        have hw2 : IntKind.i64.wrap (((min (a + n) sz : Nat) : Int) - ((a + m : Nat) : Int)) = ((min (a + n) sz - (a + m) : Nat) : Int) := by rw [wr (by omega) (by omega)]; omega
        have hw3 : IntKind.i64.wrap ((16 : Int) - (((a + m) % 16 : Nat) : Int)) = ((16 - (a + m) % 16 : Nat) : Int) := by rw [wr (by omega) (by omega)]; omega
        obtain ⟨hb, _⟩ := e_sparse_block hl hf.sort (((a + m) / 16 : Nat) : Int)
        have hlen := hf.val (((a + m) / 16 : Nat) : Int)
        generalize hq : min (16 - (a + m) % 16) (min (a + n) sz - (a + m)) = q
        have hq1 : (if ((min (a + n) sz - (a + m) : Nat) : Int) < ((16 - (a + m) % 16 : Nat) : Int) then ((min (a + n) sz - (a + m) : Nat) : Int) else ((16 - (a + m) % 16 : Nat) : Int)) = (q : Int) := by
          split <;> omega
        have hw4 : IntKind.i64.wrap ((((a + m) % 16 : Nat) : Int) + (q : Int)) = (((a + m) % 16 + q : Nat) : Int) := by rw [wr (by omega) (by omega)]; omega
        have hw5 : IntKind.i64.wrap (((a + m : Nat) : Int) + (q : Int)) = ((a + m + q : Nat) : Int) := by rw [wr (by omega) (by omega)]; omega
        have hblk := readL_block hf (a + m) q (by omega)
        have hroom : roomP (readL f.blocks a m ++ readL f.blocks (a + m) q).length 1 := rmM (by rw [List.length_append, readL_len, readL_len]; unfold SM; omega) (by omega)
        refine ⟨((a : Int), (n : Int), f, readL f.blocks a (m + q), ((a + (m + q) : Nat) : Int)), ?_, ⟨m + q, rfl, .inr (by omega)⟩, ?_, trivial⟩
        · simp only [tmodN, hw1, hw2, hw3, hq1, hw4, hw5]
          rw [run_iteT (by simp; omega), run_bind hb, run_req ⟨by omega, by omega, by omega⟩]
          simp only [Int.toNat_natCast, hblk]
          rw [run_req ⟨trivial, hroom⟩, run_same, run_ret, readL_add, Nat.add_assoc]
        · show min (a + n) sz + 1 - ((a + (m + q) : Nat) : Int).toNat < min (a + n) sz + 1 - ((a + m : Nat) : Int).toNat
          omega
      · right
        have : readL f.blocks a m = readL f.blocks a (min (a + n) sz - a) := by
          rcases hm with rfl | hm
          · congr 1; omega
          · congr 1; omega
        rw [run_iteF (by simp; omega), run_same, run_ret, this]
  obtain ⟨r, h1, rfl⟩ := hloop
  simp only [f_sparse_Read, t_sparse_Read]
  rw [run_bind h1, run_same, run_ret]

end Go.Proofs.Ytmkmjjodiicmlaa.VS
