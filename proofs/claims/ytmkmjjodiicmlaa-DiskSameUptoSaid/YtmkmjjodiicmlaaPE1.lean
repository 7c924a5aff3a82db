/- Chapter 2: reading, behind chapter 3. Conditions: none. -/
import Derived.Test.YtmkmjjodiicmlaaPE0
namespace Go.Proofs.Ytmkmjjodiicmlaa.VS
set_option maxRecDepth 100000
set_option linter.unusedVariables false
set_option linter.unusedSimpArgs false

theorem e_nanI (a : Int) : f_cmp_isNaN_int a = some false := by simp [f_cmp_isNaN_int, t_cmp_isNaN_int, T.run]
theorem e_cmpI (a b : Int) : f_cmp_Compare_int a b = some (cmpI a b) := by
  simp only [f_cmp_Compare_int, t_cmp_Compare_int, T.run, e_nanI, Option.bind_some, cmpI, gt_iff_lt, decide_eq_true_eq, Bool.false_eq_true, if_false]
  split
  · rfl
  · split <;> rfl
theorem tdivN (a : Nat) : ((a : Int)).tdiv 16 = ((a / 16 : Nat) : Int) := by rw [Int.tdiv_eq_ediv_of_nonneg (by omega)]; omega
theorem tmodN (a : Nat) : ((a : Int)).tmod 16 = ((a % 16 : Nat) : Int) := by rw [Int.tmod_eq_emod_of_nonneg (by omega)]; omega

abbrev SortB (l : List Blk) : Prop := Sorted (fun a b : Blk => a.pos < b.pos) l

theorem e_block_place {f : Fil} (hl : f.blocks.length ≤ SM) (hs : SortB f.blocks) (k0 : Int) : ∃ k : Nat, k ≤ f.blocks.length ∧ (∀ h (hk : h < k) (hl : h < f.blocks.length), f.blocks[h].pos < k0) ∧ (∀ h (hk : k ≤ h) (hl : h < f.blocks.length), k0 ≤ f.blocks[h].pos) ∧
    f_slices_BinarySearchFunc_Block_int__sparse_block_1 f.blocks k0 () = some ((k : Int), decide (∃ h : k < f.blocks.length, f.blocks[k].pos = k0)) := by
  obtain ⟨k, k1, k2, k3, k4⟩ := bsearch (t := fun q : (List Blk) × (Int × (Unit × (Int × (Int × Int)))) => tl_slices_BinarySearchFunc_Block_int__sparse_block_1_l0 q.1 q.2.1 q.2.2.1 q.2.2.2.1 q.2.2.2.2.1 q.2.2.2.2.2) f.blocks.length hl
    (fun i j => (f.blocks, k0, (), (f.blocks.length : Int), (i : Int), (j : Int))) (fun i => (f.blocks, k0, (), (f.blocks.length : Int), (i : Int))) (fun h => if hl : h < f.blocks.length then decide (f.blocks[h].pos < k0) else false)
    (fun a b hab hb h => by
      rw [dif_pos hb] at h
      rw [dif_pos (by omega)]
      simp only [decide_eq_true_eq] at h ⊢
      by_cases e : a = b
      · subst e; exact h
      · have := hs a b (by omega) hb; omega)
    (fun i j hij hj => by
      have hh := halve i j (by unfold SM at hl; omega)
      have hm : (i + j) / 2 < f.blocks.length := by omega
      have hw := wrS (i := (i + j) / 2) (by unfold SM at hl; omega)
      have hcmp : f_sparse_block_1 f.blocks[(i + j) / 2] k0 = some (cmpI f.blocks[(i + j) / 2].pos k0) := by
        simp only [f_sparse_block_1, t_sparse_block_1]; rw [run_bind (e_cmpI _ _), run_ret]
      simp only [tl_slices_BinarySearchFunc_Block_int__sparse_block_1_l0]
      rw [run_iteT (by simp; omega), run_req (by decide)]
      simp only [hh]
      rw [run_req (inb hm)]
      simp only [getD_int hm]
      rw [run_bind hcmp, dif_pos hm]
      cases hp : decide (f.blocks[(i + j) / 2].pos < k0) with
      | true => rw [run_iteT (by rw [cmpI_neg, hp]), run_ret, hw, cond_true]
      | false => rw [run_iteF (by rw [cmpI_neg, hp]), run_ret, cond_false])
    (fun i hi => by
      simp only [tl_slices_BinarySearchFunc_Block_int__sparse_block_1_l0]
      rw [run_iteF (by simp), run_ret])
  have k4 : L_slices_BinarySearchFunc_Block_int__sparse_block_1_l0 (f.blocks, k0, (), (f.blocks.length : Int), 0, (f.blocks.length : Int)) = some (f.blocks, k0, (), (f.blocks.length : Int), (k : Int)) := k4
  refine ⟨k, k1, fun h hk hl => by have := k2 h hk; rw [dif_pos hl] at this; simpa using this, fun h hk hl => by have := k3 h hk hl; rw [dif_pos hl] at this; simpa using this, ?_⟩
  have : f_slices_BinarySearchFunc_Block_int__sparse_block_1 f.blocks k0 () = some ((k : Int), decide (∃ h : k < f.blocks.length, f.blocks[k].pos = k0)) := by
    simp only [f_slices_BinarySearchFunc_Block_int__sparse_block_1, t_slices_BinarySearchFunc_Block_int__sparse_block_1]
    rw [run_bind k4]
    by_cases hk : k < f.blocks.length
    · have hcmp : f_sparse_block_1 f.blocks[k] k0 = some (cmpI f.blocks[k].pos k0) := by
        simp only [f_sparse_block_1, t_sparse_block_1]; rw [run_bind (e_cmpI _ _), run_ret]
      rw [run_iteT (by simp; omega), run_req (inb hk)]
      simp only [getD_int hk]
      rw [run_bind hcmp, run_ret, cmpI_zero]
      by_cases e : f.blocks[k].pos = k0
      · simp [e, hk]
      · simp [e, hk]
    · rw [run_iteF (by simp; omega), run_ret]
      have : ¬ ∃ h : k < f.blocks.length, f.blocks[k].pos = k0 := fun ⟨h, _⟩ => hk h
      simp [this]
  exact this

theorem findB {α : Type} {l : List α} {p : α → Bool} {k : Nat} (h1 : ∀ h (hk : h < k) (hl : h < l.length), p l[h] = false) (hk : k < l.length) (h2 : p l[k] = true) : l.find? p = some l[k] := by
  rw [List.find?_eq_some_iff_getElem]
  exact ⟨h2, k, hk, rfl, fun j hj => by simpa using h1 j hj (by omega)⟩

/-- A block's bytes. -/
def blkAt (l : List Blk) (k : Int) : Option (List UInt8) := (l.find? fun b => b.pos == k).map (·.data)
def zero16 : List UInt8 := List.replicate 16 0
def blockV (l : List Blk) (k : Int) : List UInt8 × Bool :=
  match blkAt l k with
  | some d => (d, true)
  | none => (zero16, false)

theorem block_found {f : Fil} {k0 : Int} {k : Nat} (hs : SortB f.blocks) (k2 : ∀ h (hk : h < k) (hl : h < f.blocks.length), f.blocks[h].pos < k0) (k3 : ∀ h (hk : k ≤ h) (hl : h < f.blocks.length), k0 ≤ f.blocks[h].pos) :
    (∃ h : k < f.blocks.length, f.blocks[k].pos = k0 ∧ blkAt f.blocks k0 = some f.blocks[k].data) ∨ ((¬ ∃ h : k < f.blocks.length, f.blocks[k].pos = k0) ∧ blkAt f.blocks k0 = none) := by
  by_cases h : ∃ h : k < f.blocks.length, f.blocks[k].pos = k0
  · obtain ⟨hk, he⟩ := h
    left
    refine ⟨hk, he, ?_⟩
    unfold blkAt
    rw [findB (fun h hk hl => by have := k2 h hk hl; simp; omega) hk (by simpa using he)]
    rfl
  · right
    refine ⟨h, ?_⟩
    unfold blkAt
    have : f.blocks.find? (fun b => b.pos == k0) = none := by
      rw [List.find?_eq_none]
      intro n hn
      obtain ⟨i, hi, rfl⟩ := List.mem_iff_getElem.1 hn
      simp only [beq_iff_eq]
      intro e
      rcases Nat.lt_trichotomy i k with q | q | q
      · have := k2 i q hi; omega
      · subst q; exact h ⟨hi, e⟩
      · have h1 := hs k i q hi
        have h2 := k3 k (Nat.le_refl k) (by omega)
        simp only at h1; omega
    rw [this]; rfl

theorem e_sparse_block {f : Fil} (hl : f.blocks.length ≤ SM) (hs : SortB f.blocks) (k0 : Int) : f_sparse_block f k0 = some (blockV f.blocks k0) := by
  obtain ⟨k, k1, k2, k3, k4⟩ := e_block_place hl hs k0
  have hrm : roomP (Int.toNat (16 : Int)) 1 := by unfold roomP; decide
  have hz : List.take (Int.toNat (16 : Int)) (List.drop 0 (List.replicate (Int.toNat (16 : Int)) (UInt8.ofNat (Int.toNat (0 : Int))))) = zero16 := rfl
  rcases block_found hs k2 k3 with ⟨hk, he, hb⟩ | ⟨hn, hb⟩
  · have hd : decide (∃ h : k < f.blocks.length, f.blocks[k].pos = k0) = true := decide_eq_true ⟨hk, he⟩
    simp only [f_sparse_block, t_sparse_block]
    rw [run_bind k4, run_iteF (by simp [hd]), run_req (inb hk)]
    simp only [getD_int hk]
    rw [run_ret]; unfold blockV; rw [hb]
  · have hd : decide (∃ h : k < f.blocks.length, f.blocks[k].pos = k0) = false := decide_eq_false hn
    simp only [f_sparse_block, t_sparse_block]
    rw [run_bind k4, run_iteT (by simp [hd]), run_req ⟨by decide, trivial, hrm⟩, run_req (by simp), run_ret, hz]
    unfold blockV; rw [hb]

/-! ### A file that is such -/

structure FilS (l : List Blk) : Prop where
  sort : SortB l
  len : ∀ b ∈ l, b.data.length = 16

theorem FilS.at {l : List Blk} (h : FilS l) {k : Int} {d : List UInt8} (hd : blkAt l k = some d) : d.length = 16 := by
  unfold blkAt at hd
  cases hf : l.find? (fun b => b.pos == k) with
  | none => rw [hf] at hd; cases hd
  | some b => rw [hf] at hd; cases hd; exact h.len b (List.mem_of_find?_eq_some hf)
theorem FilS.val {l : List Blk} (h : FilS l) (k : Int) : (blockV l k).1.length = 16 := by
  unfold blockV
  cases hb : blkAt l k with
  | none => rfl
  | some d => exact h.at hb
theorem FilS.sm {f : Fil} (h : FilS f.blocks) (hl : f.blocks.length ≤ SM) : SmF f := ⟨hl, fun b hb => by rw [h.len b hb]; unfold SM; omega⟩

/-- The byte at a place. -/
def bAt (l : List Blk) (i : Nat) : UInt8 := (blockV l ((i / 16 : Nat) : Int)).1.getD (i % 16) 0

/-! ### Reading -/

def readL (l : List Blk) (a m : Nat) : List UInt8 := (List.range' a m).map (bAt l)

theorem readL_len (l : List Blk) (a m : Nat) : (readL l a m).length = m := by simp [readL]
theorem readL_add (l : List Blk) (a m n : Nat) : readL l a m ++ readL l (a + m) n = readL l a (m + n) := by
  unfold readL
  rw [← List.map_append]
  congr 1
  simp

/-- Within one block. -/
theorem readL_block {l : List Blk} (h : FilS l) (i m : Nat) (hm : i % 16 + m ≤ 16) : ((blockV l ((i / 16 : Nat) : Int)).1.take (i % 16 + m)).drop (i % 16) = readL l i m := by
  have hl := h.val ((i / 16 : Nat) : Int)
  apply List.ext_getElem
  · rw [List.length_drop, List.length_take, readL_len, hl]; omega
  · intro j h1 h2
    rw [readL_len] at h2
    rw [List.getElem_drop, List.getElem_take]
    simp only [readL, List.getElem_map, List.getElem_range']
    unfold bAt
    have e1 : (i + 1 * j) / 16 = i / 16 := by omega
    have e2 : (i + 1 * j) % 16 = i % 16 + j := by omega
    rw [e1, e2, getD_at (by rw [hl]; omega)]

theorem e_sparse_Read {f : Fil} (hf : FilS f.blocks) (hl : f.blocks.length ≤ SM) (sz a n : Nat) (hsz : f.size = (sz : Int)) (ha : a ≤ 1000000) (hn : n ≤ 1000000) : f_sparse_Read f (a : Int) (n : Int) = some (readL f.blocks a (min (a + n) sz - a)) := by
  have hend : IntKind.i64.wrap ((a : Int) + (n : Int)) = ((a + n : Nat) : Int) := by rw [wr (by omega) (by omega)]; omega
  have hE : (if f.size < IntKind.i64.wrap ((a : Int) + (n : Int)) then f.size else IntKind.i64.wrap ((a : Int) + (n : Int))) = ((min (a + n) sz : Nat) : Int) := by
    rw [hend, hsz]
    split <;> omega
  have hloop : ∃ r, L_sparse_Read_l0 ((a : Int), (n : Int), f, [], (a : Int)) = some r ∧ r = readL f.blocks a (min (a + n) sz - a) := by
    have := fixT_ind (t := fun q : Int × Int × Fil × List UInt8 × Int => tl_sparse_Read_l0 q.1 q.2.1 q.2.2.1 q.2.2.2.1 q.2.2.2.2) (fun p => ∃ m : Nat, p = ((a : Int), (n : Int), f, readL f.blocks a m, ((a + m : Nat) : Int)) ∧ (m = 0 ∨ a + m ≤ min (a + n) sz))
      (fun _ => readL f.blocks a (min (a + n) sz - a)) (fun p => (min (a + n) sz + 1 - p.2.2.2.2.toNat)) (fun p hp => ?_) ((a : Int), (n : Int), f, [], (a : Int)) ⟨0, by simp [readL], .inl rfl⟩
    · exact ⟨_, this, rfl⟩
    · obtain ⟨m, rfl, hm⟩ := hp
      simp only [tl_sparse_Read_l0, hE]
      by_cases c : a + m < min (a + n) sz
      · left
        have hw1 : IntKind.i64.wrap ((((a + m : Nat) : Int)).tdiv 16) = (((a + m) / 16 : Nat) : Int) := by rw [tdivN, wr (by omega) (by omega)]
        have hw2 : IntKind.i64.wrap (((min (a + n) sz : Nat) : Int) - ((a + m : Nat) : Int)) = ((min (a + n) sz - (a + m) : Nat) : Int) := by rw [wr (by omega) (by omega)]; omega
        have hw3 : IntKind.i64.wrap ((16 : Int) - (((a + m) % 16 : Nat) : Int)) = ((16 - (a + m) % 16 : Nat) : Int) := by rw [wr (by omega) (by omega)]; omega
        have hb := e_sparse_block hl hf.sort (((a + m) / 16 : Nat) : Int)
        have hlen := hf.val (((a + m) / 16 : Nat) : Int)
        generalize hq : min (16 - (a + m) % 16) (min (a + n) sz - (a + m)) = q
        have hq1 : (if ((min (a + n) sz - (a + m) : Nat) : Int) < ((16 - (a + m) % 16 : Nat) : Int) then ((min (a + n) sz - (a + m) : Nat) : Int) else ((16 - (a + m) % 16 : Nat) : Int)) = (q : Int) := by
          split <;> omega
        have hw4 : IntKind.i64.wrap ((((a + m) % 16 : Nat) : Int) + (q : Int)) = (((a + m) % 16 + q : Nat) : Int) := by rw [wr (by omega) (by omega)]; omega
        have hw5 : IntKind.i64.wrap (((a + m : Nat) : Int) + (q : Int)) = ((a + m + q : Nat) : Int) := by rw [wr (by omega) (by omega)]; omega
        have hblk := readL_block hf (a + m) q (by omega)
        have hroom : roomP (readL f.blocks a m ++ readL f.blocks (a + m) q).length 1 := rmM (by rw [List.length_append, readL_len, readL_len]; unfold SM; omega) (by omega)
        refine ⟨((a : Int), (n : Int), f, readL f.blocks a (m + q), ((a + (m + q) : Nat) : Int)), ?_, ⟨m + q, rfl, .inr (by omega)⟩, ?_, trivial⟩
        · simp only [tmodN, hw1, hw2, hw3, hq1, hw4, hw5]
          rw [run_iteT (by simp; omega), run_bind hb, run_req ⟨by omega, by omega, by omega⟩]
          simp only [Int.toNat_natCast, hblk]
          rw [run_req ⟨trivial, hroom⟩, run_same, run_ret, readL_add, Nat.add_assoc]
        · show min (a + n) sz + 1 - ((a + (m + q) : Nat) : Int).toNat < min (a + n) sz + 1 - ((a + m : Nat) : Int).toNat
          omega
      · right
        have : readL f.blocks a m = readL f.blocks a (min (a + n) sz - a) := by
          rcases hm with rfl | hm
          · congr 1; omega
          · congr 1; omega
        rw [run_iteF (by simp; omega), run_same, run_ret, this]
  obtain ⟨r, h1, rfl⟩ := hloop
  simp only [f_sparse_Read, t_sparse_Read]
  rw [run_bind h1, run_same, run_ret]

/-! ### The document's reading -/

theorem FilOK.sortB {f : Fil} (h : FilOK f) : SortB f.blocks := sorted_of (lt := fun a b : Blk => a.pos < b.pos) (fun h k => Int.lt_trans h k) h.sorted
theorem FilOK.filS {f : Fil} (h : FilOK f) : FilS f.blocks := ⟨h.sortB, fun b hb => by
  obtain ⟨i, hi, rfl⟩ := List.mem_iff_getElem.1 hb
  exact (h.blk i hi).len⟩

theorem e_r2_find {f : Fil} (hl : f.blocks.length ≤ SM) (k : Int) : (∃ b, f.blocks.find? (fun b => b.pos == k) = some b ∧ ∃ i : Nat, ∃ h : i < f.blocks.length, f.blocks[i] = b ∧ f_r2_find f k = some (i : Int)) ∨ (f.blocks.find? (fun b => b.pos == k) = none ∧ f_r2_find f k = some (-1)) := by
  have hloop : L_r2_find_l0 (k, f, 0) = _ := loop_find f.blocks (fun b => b.pos == k) (fun i => (k, f, (i : Int))) (fun i b => (.inl (i : Int) : Int ⊕ Unit)) (.inr ())
    (fun i hi hp _ => by
      have hw := wrS (i := i) (by unfold SM at hl; omega)
      simp only [tl_r2_find_l0]
      rw [run_iteT (by simp; omega), run_req (inb hi)]
      simp only [getD_int hi]
      rw [run_iteF hp, run_ret, hw])
    (fun i hi hp _ => by
      simp only [tl_r2_find_l0]
      rw [run_iteT (by simp; omega), run_req (inb hi)]
      simp only [getD_int hi]
      rw [run_iteT hp, run_ret])
    (fun _ => by
      simp only [tl_r2_find_l0]
      rw [run_iteF (by simp), run_ret])
  simp only [f_r2_find, t_r2_find]
  cases hf : f.blocks.find? (fun b => b.pos == k) with
  | none =>
    right
    refine ⟨rfl, ?_⟩
    have : L_r2_find_l0 (k, f, 0) = some (.inr ()) := by
      rw [hloop, hf]
      cases f.blocks.findIdx? (fun b => b.pos == k) <;> rfl
    rw [run_bind this, run_caseR, run_ret]
  | some b =>
    left
    refine ⟨b, rfl, ?_⟩
    obtain ⟨i, hi, rfl, hlt⟩ : ∃ i : Nat, ∃ h : i < f.blocks.length, f.blocks[i] = b ∧ f.blocks.findIdx? (fun b => b.pos == k) = some i := by
      obtain ⟨h2, i, hi, e, hlt⟩ := List.find?_eq_some_iff_getElem.1 hf
      refine ⟨i, hi, e, ?_⟩
      rw [List.findIdx?_eq_some_iff_getElem]
      exact ⟨hi, by rw [e]; exact h2, fun j hj => by have := hlt j hj; simpa using this⟩
    have : L_r2_find_l0 (k, f, 0) = some (.inl (i : Int)) := by rw [hloop, hf, hlt]
    exact ⟨i, hi, rfl, by rw [run_bind this, run_caseL, run_ret]⟩

theorem u8n (b : UInt8) : (0 : Int) ≤ (b.toNat : Int) ∧ (b.toNat : Int) < 256 := by have := b.toNat_lt; omega
theorem u8b (b : UInt8) : UInt8.ofNat ((b.toNat : Int)).toNat = b := by simp

theorem e_r2_byteAt {f : Fil} (hf : FilS f.blocks) (hl : f.blocks.length ≤ SM) (i : Nat) (hi : i ≤ 3000000) : f_r2_byteAt f (i : Int) = some (bAt f.blocks i) := by
  have hw1 : IntKind.i64.wrap (((i : Int)).tdiv 16) = ((i / 16 : Nat) : Int) := by rw [tdivN, wr (by omega) (by omega)]
  simp only [f_r2_byteAt, t_r2_byteAt, hw1, tmodN]
  rcases e_r2_find hl ((i / 16 : Nat) : Int) with ⟨b, h1, k, hk, rfl, h2⟩ | ⟨h1, h2⟩
  · have hlen := hf.len _ (List.getElem_mem hk)
    have hm : i % 16 < f.blocks[k].data.length := by omega
    rw [run_bind h2, run_iteF (by simp), run_req (inb hk)]
    simp only [getD_int hk]
    rw [run_req (inb hm)]
    simp only [getD_int hm]
    rw [run_req (u8n _), run_ret, u8b]
    unfold bAt blockV blkAt
    rw [h1]
    simp only [Option.map_some]
    rw [getD_at hm]
  · rw [run_bind h2, run_iteT (by rfl), run_req (by decide), run_ret]
    have : bAt f.blocks i = 0 := by
      unfold bAt blockV blkAt
      rw [h1]
      show zero16.getD (i % 16) 0 = 0
      unfold zero16
      rw [List.getD_eq_getElem?_getD, List.getElem?_replicate]
      split <;> rfl
    rw [this]; rfl

theorem e_r2_Read {f : Fil} (hf : FilS f.blocks) (hl : f.blocks.length ≤ SM) (sz a n : Nat) (hsz : f.size = (sz : Int)) (ha : a ≤ 1000000) (hn : n ≤ 1000000) : f_r2_Read f (a : Int) (n : Int) = some (readL f.blocks a (min (a + n) sz - a)) := by
  have hend : IntKind.i64.wrap ((a : Int) + (n : Int)) = ((a + n : Nat) : Int) := by rw [wr (by omega) (by omega)]; omega
  have hloop : L_r2_Read_l0 ((a : Int), (n : Int), f, [], (a : Int)) = some (readL f.blocks a (min (a + n) sz - a)) := by
    refine loop_to (fun i => ((a : Int), (n : Int), f, readL f.blocks a i, ((a + i : Nat) : Int))) (min (a + n) sz - a) (fun i hi => ?_) ?_
    · have hb := e_r2_byteAt hf hl (a + i) (by omega)
      have hw := wrS (i := a + i) (by omega)
      have e : readL f.blocks a i ++ [bAt f.blocks (a + i)] = readL f.blocks a (i + 1) := by rw [← readL_add]; rfl
      simp only [tl_r2_Read_l0, hend, hsz]
      rw [run_iteT (by simp; omega), run_iteT (by simp; omega), run_bind hb, run_req (u8n _), u8b, e, run_req ⟨trivial, rmM (by rw [readL_len]; unfold SM; omega) (by omega)⟩, run_same, run_ret, hw]
      rfl
    · simp only [tl_r2_Read_l0, hend, hsz]
      by_cases c : a + (min (a + n) sz - a) < a + n
      · rw [run_iteT (by simp; omega), run_iteF (by simp; omega), run_same, run_ret]
      · rw [run_iteF (by simp; omega), run_same, run_ret]
  simp only [f_r2_Read, t_r2_Read]
  rw [run_bind hloop, run_same, run_ret]

end Go.Proofs.Ytmkmjjodiicmlaa.VS
