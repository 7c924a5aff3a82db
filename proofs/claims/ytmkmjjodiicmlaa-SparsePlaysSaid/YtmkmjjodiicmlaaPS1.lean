/- Chapter 2: blocks, in plain words. Conditions: none. -/
import Derived.Test.YtmkmjjodiicmlaaYDZ
namespace Go.Proofs.Ytmkmjjodiicmlaa.VS
set_option maxRecDepth 100000
set_option linter.unusedVariables false
set_option linter.unusedSimpArgs false

/-- Not too large. -/
def SmF (f : Fil) : Prop := f.blocks.length ≤ SM ∧ ∀ b ∈ f.blocks, b.data.length ≤ SM

def cmpI (a b : Int) : Int := if a < b then -1 else if b < a then 1 else 0
theorem e_nanI (a : Int) : f_cmp_isNaN_int a = some false := by simp [f_cmp_isNaN_int, t_cmp_isNaN_int, T.run]
theorem e_cmpI (a b : Int) : f_cmp_Compare_int a b = some (cmpI a b) := by
  simp only [f_cmp_Compare_int, t_cmp_Compare_int, T.run, e_nanI, Option.bind_some, cmpI, gt_iff_lt, decide_eq_true_eq, Bool.false_eq_true, if_false]
  split
  · rfl
  · split <;> rfl
theorem cmpI_neg (a b : Int) : decide (cmpI a b < 0) = decide (a < b) := by
  unfold cmpI
  by_cases h : a < b
  · simp [h]
  · by_cases k : b < a <;> simp [h, k]
theorem cmpI_zero (a b : Int) : (cmpI a b == 0) = (a == b) := by
  unfold cmpI
  by_cases h : a < b
  · have : a ≠ b := by omega
    simp [h, this]
  · by_cases k : b < a
    · have : a ≠ b := by omega
      simp [h, k, this]
    · have : a = b := by omega
      simp [this]

theorem tdivN (a : Nat) : ((a : Int)).tdiv 16 = ((a / 16 : Nat) : Int) := by rw [Int.tdiv_eq_ediv_of_nonneg (by omega)]; omega
theorem tmodN (a : Nat) : ((a : Int)).tmod 16 = ((a % 16 : Nat) : Int) := by rw [Int.tmod_eq_emod_of_nonneg (by omega)]; omega

abbrev SortB (l : List Blk) : Prop := Sorted (fun a b : Blk => a.pos < b.pos) l

theorem e_block_place {f : Fil} (hl : f.blocks.length ≤ SM) (hs : SortB f.blocks) (k0 : Int) : ∃ k : Nat, k ≤ f.blocks.length ∧ (∀ h (hk : h < k) (hl : h < f.blocks.length), f.blocks[h].pos < k0) ∧ (∀ h (hk : k ≤ h) (hl : h < f.blocks.length), k0 ≤ f.blocks[h].pos) ∧
    f_slices_BinarySearchFunc_Block_int__sparse_block_1 f.blocks k0 () = some ((k : Int), decide (∃ h : k < f.blocks.length, f.blocks[k].pos = k0)) := by
  obtain ⟨k, k1, k2, k3, k4⟩ := bsearch (t := fun q : (List Blk) × (Int × (Unit × (Int × (Int × Int)))) => tl_slices_BinarySearchFunc_Block_int__sparse_block_1_l0 q.1 q.2.1 q.2.2.1 q.2.2.2.1 q.2.2.2.2.1 q.2.2.2.2.2) f.blocks.length hl
    (fun i j => (f.blocks, k0, (), (f.blocks.length : Int), (i : Int), (j : Int))) (fun i => (f.blocks, k0, (), (f.blocks.length : Int), (i : Int))) (fun h => if hl : h < f.blocks.length then decide (f.blocks[h].pos < k0) else false)
    (fun a b hab hb h => by
      rw [dif_pos hb] at h
      rw [dif_pos (by omega)]
      simp only [decide_eq_true_eq] at h ⊢
      by_cases e : a = b
      · subst e; exact h
      · have := hs a b (by omega) hb; omega)
    (fun i j hij hj => by
      have hh := halve i j (by unfold SM at hl; omega)
      have hm : (i + j) / 2 < f.blocks.length := by omega
      have hw := wrS (i := (i + j) / 2) (by unfold SM at hl; omega)
      have hcmp : f_sparse_block_1 f.blocks[(i + j) / 2] k0 = some (cmpI f.blocks[(i + j) / 2].pos k0) := by
        simp only [f_sparse_block_1, t_sparse_block_1]; rw [run_bind (e_cmpI _ _), run_ret]
      simp only [tl_slices_BinarySearchFunc_Block_int__sparse_block_1_l0]
      rw [run_iteT (by simp; omega), run_req (by decide)]
      simp only [hh]
      rw [run_req (inb hm)]
      simp only [getD_int hm]
      rw [run_bind hcmp, dif_pos hm]
      cases hp : decide (f.blocks[(i + j) / 2].pos < k0) with
      | true => rw [run_iteT (by rw [cmpI_neg, hp]), run_ret, hw, cond_true]
      | false => rw [run_iteF (by rw [cmpI_neg, hp]), run_ret, cond_false])
    (fun i hi => by
      simp only [tl_slices_BinarySearchFunc_Block_int__sparse_block_1_l0]
      rw [run_iteF (by simp), run_ret])
  have k4 : L_slices_BinarySearchFunc_Block_int__sparse_block_1_l0 (f.blocks, k0, (), (f.blocks.length : Int), 0, (f.blocks.length : Int)) = some (f.blocks, k0, (), (f.blocks.length : Int), (k : Int)) := k4
  refine ⟨k, k1, fun h hk hl => by have := k2 h hk; rw [dif_pos hl] at this; simpa using this, fun h hk hl => by have := k3 h hk hl; rw [dif_pos hl] at this; simpa using this, ?_⟩
  have : f_slices_BinarySearchFunc_Block_int__sparse_block_1 f.blocks k0 () = some ((k : Int), decide (∃ h : k < f.blocks.length, f.blocks[k].pos = k0)) := by
    simp only [f_slices_BinarySearchFunc_Block_int__sparse_block_1, t_slices_BinarySearchFunc_Block_int__sparse_block_1]
    rw [run_bind k4]
    by_cases hk : k < f.blocks.length
    · have hcmp : f_sparse_block_1 f.blocks[k] k0 = some (cmpI f.blocks[k].pos k0) := by
        simp only [f_sparse_block_1, t_sparse_block_1]; rw [run_bind (e_cmpI _ _), run_ret]
      rw [run_iteT (by simp; omega), run_req (inb hk)]
      simp only [getD_int hk]
      rw [run_bind hcmp, run_ret, cmpI_zero]
      by_cases e : f.blocks[k].pos = k0
      · simp [e, hk]
      · simp [e, hk]
    · rw [run_iteF (by simp; omega), run_ret]
      have : ¬ ∃ h : k < f.blocks.length, f.blocks[k].pos = k0 := fun ⟨h, _⟩ => hk h
      simp [this]
  exact this

theorem findB {α : Type} {l : List α} {p : α → Bool} {k : Nat} (h1 : ∀ h (hk : h < k) (hl : h < l.length), p l[h] = false) (hk : k < l.length) (h2 : p l[k] = true) : l.find? p = some l[k] := by
  rw [List.find?_eq_some_iff_getElem]
  exact ⟨h2, k, hk, rfl, fun j hj => by simpa using h1 j hj (by omega)⟩

/-- A block's bytes. -/
def blkAt (l : List Blk) (k : Int) : Option (List UInt8) := (l.find? fun b => b.pos == k).map (·.data)
def zero16 : List UInt8 := List.replicate 16 0
def blockV (l : List Blk) (k : Int) : List UInt8 × Bool :=
  match blkAt l k with
  | some d => (d, true)
  | none => (zero16, false)

theorem block_found {f : Fil} {k0 : Int} {k : Nat} (hs : SortB f.blocks) (k2 : ∀ h (hk : h < k) (hl : h < f.blocks.length), f.blocks[h].pos < k0) (k3 : ∀ h (hk : k ≤ h) (hl : h < f.blocks.length), k0 ≤ f.blocks[h].pos) :
    (∃ h : k < f.blocks.length, f.blocks[k].pos = k0 ∧ blkAt f.blocks k0 = some f.blocks[k].data) ∨ ((¬ ∃ h : k < f.blocks.length, f.blocks[k].pos = k0) ∧ blkAt f.blocks k0 = none) := by
  by_cases h : ∃ h : k < f.blocks.length, f.blocks[k].pos = k0
  · obtain ⟨hk, he⟩ := h
    left
    refine ⟨hk, he, ?_⟩
    unfold blkAt
    rw [findB (fun h hk hl => by have := k2 h hk hl; simp; omega) hk (by simpa using he)]
    rfl
  · right
    refine ⟨h, ?_⟩
    unfold blkAt
    have : f.blocks.find? (fun b => b.pos == k0) = none := by
      rw [List.find?_eq_none]
      intro n hn
      obtain ⟨i, hi, rfl⟩ := List.mem_iff_getElem.1 hn
      simp only [beq_iff_eq]
      intro e
      rcases Nat.lt_trichotomy i k with q | q | q
      · have := k2 i q hi; omega
      · subst q; exact h ⟨hi, e⟩
      · have h1 := hs k i q hi
        have h2 := k3 k (Nat.le_refl k) (by omega)
        simp only at h1; omega
    rw [this]; rfl

theorem e_sparse_block {f : Fil} (hl : f.blocks.length ≤ SM) (hs : SortB f.blocks) (k0 : Int) : f_sparse_block f k0 = some (blockV f.blocks k0) ∧ fL_sparse_block f k0 = some (blockV f.blocks k0) := by
  obtain ⟨k, k1, k2, k3, k4⟩ := e_block_place hl hs k0
  have hrm : roomP (Int.toNat (16 : Int)) 1 := by unfold roomP; decide
  have hz : List.take (Int.toNat (16 : Int)) (List.drop 0 (List.replicate (Int.toNat (16 : Int)) (UInt8.ofNat (Int.toNat (0 : Int))))) = zero16 := rfl
  rcases block_found hs k2 k3 with ⟨hk, he, hb⟩ | ⟨hn, hb⟩
  · have hd : decide (∃ h : k < f.blocks.length, f.blocks[k].pos = k0) = true := decide_eq_true ⟨hk, he⟩
    constructor
    · simp only [f_sparse_block, t_sparse_block]
      rw [run_bind k4, run_iteF (by simp [hd]), run_req (inb hk)]
      simp only [getD_int hk]
      rw [run_ret]; unfold blockV; rw [hb]
    · simp only [fL_sparse_block, tL_sparse_block]
      rw [run_same, run_bind k4, run_iteF (by simp [hd]), run_req (inb hk), run_req (by simpa using hk), run_same]
      simp only [getD_int hk]
      rw [run_ret]; unfold blockV; rw [hb]
  · have hd : decide (∃ h : k < f.blocks.length, f.blocks[k].pos = k0) = false := decide_eq_false hn
    constructor
    · simp only [f_sparse_block, t_sparse_block]
      rw [run_bind k4, run_iteT (by simp [hd]), run_req ⟨by decide, trivial, hrm⟩, run_req (by simp), run_ret, hz]
      unfold blockV; rw [hb]
    · simp only [fL_sparse_block, tL_sparse_block]
      rw [run_same, run_bind k4, run_iteT (by simp [hd]), run_req ⟨by decide, trivial, hrm⟩, run_req (by simp), run_same, run_ret, hz]
      unfold blockV; rw [hb]

theorem e_sparse_copied {f : Fil} (h : SmF f) : f_sparse_copied f = some f := by
  obtain ⟨s, bs⟩ := f
  obtain ⟨h1, h2⟩ := h
  simp only at h1 h2
  have hl : L_sparse_copied_l0 (Fil.mk 0 [], Fil.mk s [], bs, (bs.length : Int), 0) = some (Fil.mk 0 [], Fil.mk s bs) := by
    refine loop_to (fun i => (Fil.mk 0 [], Fil.mk s (bs.take i), bs, (bs.length : Int), (i : Int))) bs.length (fun i hi => ?_) ?_
    · have hw := wrS (i := i) (by unfold SM at h1; omega)
      have hd : f_bytes_Clone bs[i].data = some bs[i].data := e_clone (h2 _ (List.getElem_mem hi)) (by omega)
      have e : bs.take (i + 1) = bs.take i ++ [bs[i]] := by rw [List.take_add_one, List.getElem?_eq_getElem hi]; rfl
      have ht : (bs.take i ++ [Blk.mk bs[i].pos bs[i].data]).length ≤ SM := by simp; omega
      simp only [tl_sparse_copied_l0]
      rw [run_iteT (by simp; omega), run_req (inb hi)]
      simp only [getD_int hi]
      rw [run_bind hd, run_same, run_req ⟨trivial, rmM ht (by omega)⟩, run_same, run_ret, hw, e]
    · simp only [tl_sparse_copied_l0]
      rw [run_iteF (by simp), run_same, run_ret, List.take_length]
  simp only [f_sparse_copied, t_sparse_copied]
  rw [run_bind hl, run_same, run_ret]

/-! ### A file with a block -/

def putB : List Blk → Int → List UInt8 → List Blk
  | [], k, d => [⟨k, d⟩]
  | b :: r, k, d => if b.pos < k then b :: putB r k d else if b.pos = k then ⟨k, d⟩ :: r else ⟨k, d⟩ :: b :: r

theorem putB_set : ∀ {l : List Blk} {k : Int} {d : List UInt8} {i : Nat}, (∀ h (hi : h < i) (hl : h < l.length), l[h].pos < k) → (hi : i < l.length) → l[i].pos = k → putB l k d = l.set i ⟨l[i].pos, d⟩
  | [], k, d, i, _, hi, _ => by simp at hi
  | b :: r, k, d, 0, _, hi, he => by
    have he : b.pos = k := he
    rw [putB, if_neg (by omega), if_pos he]
    simp [he]
  | b :: r, k, d, i + 1, h, hi, he => by
    have hb : b.pos < k := h 0 (by omega) (by simp)
    rw [putB, if_pos hb, putB_set (i := i) (fun j hj hl => h (j + 1) (by omega) (by simpa using hl)) (by simpa using hi) he]
    simp

theorem putB_ins : ∀ {l : List Blk} {k : Int} {d : List UInt8} {i : Nat}, (∀ h (hi : h < i) (hl : h < l.length), l[h].pos < k) → i ≤ l.length → (∀ hi : i < l.length, k < l[i].pos) → putB l k d = l.take i ++ [⟨k, d⟩] ++ l.drop i
  | [], k, d, i, _, hi, _ => by simp at hi; subst hi; rfl
  | b :: r, k, d, 0, _, hi, he => by
    have he : k < b.pos := he (by simp)
    rw [putB, if_neg (by omega), if_neg (by omega)]
    rfl
  | b :: r, k, d, i + 1, h, hi, he => by
    have hb : b.pos < k := h 0 (by omega) (by simp)
    rw [putB, if_pos hb, putB_ins (i := i) (fun j hj hl => h (j + 1) (by omega) (by simpa using hl)) (by simpa using hi) (fun hi => he (by simpa using hi))]
    simp

theorem putB_len : ∀ (l : List Blk) (k : Int) (d : List UInt8), (putB l k d).length ≤ l.length + 1
  | [], k, d => by simp [putB]
  | b :: r, k, d => by
    rw [putB]
    split
    · have := putB_len r k d; simp; omega
    · split <;> simp

theorem e_sparse_with {f : Fil} (hl : f.blocks.length + 1 ≤ SM) (hs : SortB f.blocks) (k : Int) (d : List UInt8) : f_sparse_with f k d = some ⟨f.size, putB f.blocks k d⟩ := by
  have hloop : ∃ i : Nat, L_sparse_with_l0 (k, d, f, Fil.mk 0 [], 0) = some (k, d, f, Fil.mk 0 [], (i : Int)) ∧ (∀ h (hi : h < i) (hl : h < f.blocks.length), f.blocks[h].pos < k) ∧ i ≤ f.blocks.length ∧ ∀ hi : i < f.blocks.length, ¬ f.blocks[i].pos < k := by
    have := loop_inv (t := fun q : Int × (List UInt8) × Fil × Fil × Int => tl_sparse_with_l0 q.1 q.2.1 q.2.2.1 q.2.2.2.1 q.2.2.2.2) (fun i p => p = (k, d, f, Fil.mk 0 [], (i : Int)) ∧ ∀ h (hi : h < i) (hl : h < f.blocks.length), f.blocks[h].pos < k)
      (fun r => ∃ i : Nat, r = (k, d, f, Fil.mk 0 [], (i : Int)) ∧ (∀ h (hi : h < i) (hl : h < f.blocks.length), f.blocks[h].pos < k) ∧ i ≤ f.blocks.length ∧ ∀ hi : i < f.blocks.length, ¬ f.blocks[i].pos < k) f.blocks.length (fun i p hi hp => ?_) (fun p hp => ?_) (p := (k, d, f, Fil.mk 0 [], 0)) ⟨rfl, fun h hi => by omega⟩
    · obtain ⟨r, h1, i, rfl, h2⟩ := this
      exact ⟨i, h1, h2⟩
    · obtain ⟨rfl, hb⟩ := hp
      have hw := wrS (i := i) (by unfold SM at hl; omega)
      simp only [tl_sparse_with_l0]
      rw [run_iteT (by simp; omega), run_req (inb hi), run_req (by simpa using hi)]
      simp only [getD_int hi]
      by_cases c : f.blocks[i].pos < k
      · exact .inl ⟨_, by rw [run_iteT (by simpa using c), run_same, run_ret, hw], rfl, fun h hh hhl => by
          by_cases e : h = i
          · subst e; exact c
          · exact hb h (by omega) hhl⟩
      · exact .inr ⟨_, by rw [run_iteF (by simpa using c), run_same, run_ret], i, rfl, hb, by omega, fun _ => c⟩
    · obtain ⟨rfl, hb⟩ := hp
      simp only [tl_sparse_with_l0]
      exact ⟨_, by rw [run_iteF (by simp), run_same, run_ret], f.blocks.length, rfl, hb, Nat.le_refl _, fun h => absurd h (Nat.lt_irrefl _)⟩
  obtain ⟨i, h1, h2, h3, h4⟩ := hloop
  have hroom : roomP (f.blocks.length + [Blk.mk k d].length) 32 := rmM (by simp; omega) (by omega)
  have ins : (∀ hi : i < f.blocks.length, k < f.blocks[i].pos) → (f.blocks.length + [Blk.mk k d].length = (f.blocks.take i ++ [Blk.mk k d] ++ f.blocks.drop i).length) ∧ putB f.blocks k d = f.blocks.take i ++ [Blk.mk k d] ++ f.blocks.drop i := fun h => ⟨by simp; omega, putB_ins h2 h3 h⟩
  simp only [f_sparse_with, t_sparse_with]
  rw [run_same, run_bind h1]
  dsimp only
  by_cases hi : i < f.blocks.length
  · rw [run_iteT (by simp; omega), run_req (inb hi), run_req (by simpa using hi)]
    simp only [getD_int hi]
    by_cases he : f.blocks[i].pos = k
    · rw [run_iteT (by simpa using he), run_req (inb hi), run_req (by simpa using hi)]
      simp only [Int.toNat_natCast]
      rw [run_req (by simp), run_ret, putB_set h2 hi he]
    · have hlt : ∀ hi : i < f.blocks.length, k < f.blocks[i].pos := fun hi => by have := h4 hi; omega
      obtain ⟨g1, g2⟩ := ins hlt
      rw [run_iteF (by simpa using he), run_same, run_req ⟨by omega, by omega, hroom⟩]
      simp only [Int.toNat_natCast]
      rw [run_req g1, run_ret, g2]
  · obtain ⟨g1, g2⟩ := ins (fun h => absurd h hi)
    rw [run_iteF (by simp; omega), run_same, run_req ⟨by omega, by omega, hroom⟩]
    simp only [Int.toNat_natCast]
    rw [run_req g1, run_ret, g2]

end Go.Proofs.Ytmkmjjodiicmlaa.VS
