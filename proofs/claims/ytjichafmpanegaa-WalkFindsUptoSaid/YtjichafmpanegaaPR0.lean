/- Chapter 2: the document's reading. Conditions: none. -/
import Derived.Test.YtjichafmpanegaaPD4
namespace Go.Proofs.Ytjichafmpanegaa.VS
set_option maxRecDepth 100000
set_option linter.unusedVariables false
set_option linter.unusedSimpArgs false

theorem tdivN (a : Nat) : ((a : Int)).tdiv 16 = ((a / 16 : Nat) : Int) := by rw [Int.tdiv_eq_ediv_of_nonneg (by omega)]; omega
theorem tmodN (a : Nat) : ((a : Int)).tmod 16 = ((a % 16 : Nat) : Int) := by rw [Int.tmod_eq_emod_of_nonneg (by omega)]; omega

abbrev SortB (l : List Blk) : Prop := Sorted (fun a b : Blk => a.pos < b.pos) l

/-- A block's bytes. -/
def blkAt (l : List Blk) (k : Int) : Option (List UInt8) := (l.find? fun b => b.pos == k).map (·.data)
def zero16 : List UInt8 := List.replicate 16 0
def blockV (l : List Blk) (k : Int) : List UInt8 × Bool :=
  match blkAt l k with
  | some d => (d, true)
  | none => (zero16, false)

/-! ### A file that is such -/

structure FilS (l : List Blk) : Prop where
  sort : SortB l
  len : ∀ b ∈ l, b.data.length = 16

theorem FilS.at {l : List Blk} (h : FilS l) {k : Int} {d : List UInt8} (hd : blkAt l k = some d) : d.length = 16 := by
  unfold blkAt at hd
  cases hf : l.find? (fun b => b.pos == k) with
  | none => rw [hf] at hd; cases hd
  | some b => rw [hf] at hd; cases hd; exact h.len b (List.mem_of_find?_eq_some hf)
theorem FilS.val {l : List Blk} (h : FilS l) (k : Int) : (blockV l k).1.length = 16 := by
  unfold blockV
  cases hb : blkAt l k with
  | none => rfl
  | some d => exact h.at hb
/-- The byte at a place. -/
def bAt (l : List Blk) (i : Nat) : UInt8 := (blockV l ((i / 16 : Nat) : Int)).1.getD (i % 16) 0

/-! ### Reading -/

def readL (l : List Blk) (a m : Nat) : List UInt8 := (List.range' a m).map (bAt l)

theorem readL_len (l : List Blk) (a m : Nat) : (readL l a m).length = m := by simp [readL]
theorem readL_add (l : List Blk) (a m n : Nat) : readL l a m ++ readL l (a + m) n = readL l a (m + n) := by
  unfold readL
  rw [← List.map_append]
  congr 1
  simp

/-! ### The document's reading -/

theorem FilOK.sortB {f : Fil} (h : FilOK f) : SortB f.blocks := sorted_of (lt := fun a b : Blk => a.pos < b.pos) (fun h k => Int.lt_trans h k) h.sorted
theorem FilOK.filS {f : Fil} (h : FilOK f) : FilS f.blocks := ⟨h.sortB, fun b hb => by
  obtain ⟨i, hi, rfl⟩ := List.mem_iff_getElem.1 hb
  exact (h.blk i hi).len⟩

theorem e_r2_find {f : Fil} (hl : f.blocks.length ≤ SM) (k : Int) : (∃ b, f.blocks.find? (fun b => b.pos == k) = some b ∧ ∃ i : Nat, ∃ h : i < f.blocks.length, f.blocks[i] = b ∧ f_r2_find f k = some (i : Int)) ∨ (f.blocks.find? (fun b => b.pos == k) = none ∧ f_r2_find f k = some (-1)) := by
  have hloop : L_r2_find_l0 (k, f, 0) = _ := loop_find f.blocks (fun b => b.pos == k) (fun i => (k, f, (i : Int))) (fun i b => (.inl (i : Int) : Int ⊕ Unit)) (.inr ())
    (fun i hi hp _ => by
      have hw := wrS (i := i) (by unfold SM at hl; omega)
      simp only [tl_r2_find_l0]
      rw [run_iteT (by simp; omega), run_req (inb hi)]
      simp only [getD_int hi]
      rw [run_iteF hp, run_ret, hw])
    (fun i hi hp _ => by
      simp only [tl_r2_find_l0]
      rw [run_iteT (by simp; omega), run_req (inb hi)]
      simp only [getD_int hi]
      rw [run_iteT hp, run_ret])
    (fun _ => by
      simp only [tl_r2_find_l0]
      rw [run_iteF (by simp), run_ret])
  simp only [f_r2_find, t_r2_find]
  cases hf : f.blocks.find? (fun b => b.pos == k) with
  | none =>
    right
    refine ⟨rfl, ?_⟩
    have : L_r2_find_l0 (k, f, 0) = some (.inr ()) := by
      rw [hloop, hf]
      cases f.blocks.findIdx? (fun b => b.pos == k) <;> rfl
    rw [run_bind this, run_caseR, run_ret]
  | some b =>
    left
    refine ⟨b, rfl, ?_⟩
    obtain ⟨i, hi, rfl, hlt⟩ : ∃ i : Nat, ∃ h : i < f.blocks.length, f.blocks[i] = b ∧ f.blocks.findIdx? (fun b => b.pos == k) = some i := by
      obtain ⟨h2, i, hi, e, hlt⟩ := List.find?_eq_some_iff_getElem.1 hf
      refine ⟨i, hi, e, ?_⟩
      rw [List.findIdx?_eq_some_iff_getElem]
      exact ⟨hi, by rw [e]; exact h2, fun j hj => by have := hlt j hj; simpa using this⟩
    have : L_r2_find_l0 (k, f, 0) = some (.inl (i : Int)) := by rw [hloop, hf, hlt]
    exact ⟨i, hi, rfl, by rw [run_bind this, run_caseL, run_ret]⟩

theorem u8n (b : UInt8) : (0 : Int) ≤ (b.toNat : Int) ∧ (b.toNat : Int) < 256 := by have := b.toNat_lt; omega
theorem u8b (b : UInt8) : UInt8.ofNat ((b.toNat : Int)).toNat = b := by simp

theorem e_r2_byteAt {f : Fil} (hf : FilS f.blocks) (hl : f.blocks.length ≤ SM) (i : Nat) (hi : i ≤ 3000000) : f_r2_byteAt f (i : Int) = some (bAt f.blocks i) := by
  have hw1 : IntKind.i64.wrap (((i : Int)).tdiv 16) = ((i / 16 : Nat) : Int) := by rw [tdivN, wr (by omega) (by omega)]
  simp only [f_r2_byteAt, t_r2_byteAt, hw1, tmodN]
  rcases e_r2_find hl ((i / 16 : Nat) : Int) with ⟨b, h1, k, hk, rfl, h2⟩ | ⟨h1, h2⟩
  · have hlen := hf.len _ (List.getElem_mem hk)
    have hm : i % 16 < f.blocks[k].data.length := by omega
    rw [run_bind h2, run_iteF (by simp), run_req (inb hk)]
    simp only [getD_int hk]
    rw [run_req (inb hm)]
    simp only [getD_int hm]
    rw [run_req (u8n _), run_ret, u8b]
    unfold bAt blockV blkAt
    rw [h1]
    simp only [Option.map_some]
    rw [getD_at hm]
  · rw [run_bind h2, run_iteT (by rfl), run_req (by decide), run_ret]
    have : bAt f.blocks i = 0 := by
      unfold bAt blockV blkAt
      rw [h1]
      show zero16.getD (i % 16) 0 = 0
      unfold zero16
      rw [List.getD_eq_getElem?_getD, List.getElem?_replicate]
      split <;> rfl
    rw [this]; rfl

theorem e_r2_Read {f : Fil} (hf : FilS f.blocks) (hl : f.blocks.length ≤ SM) (sz a n : Nat) (hsz : f.size = (sz : Int)) (ha : a ≤ 1000000) (hn : n ≤ 1000000) : f_r2_Read f (a : Int) (n : Int) = some (readL f.blocks a (min (a + n) sz - a)) := by
  have hend : IntKind.i64.wrap ((a : Int) + (n : Int)) = ((a + n : Nat) : Int) := by rw [wr (by omega) (by omega)]; omega
  have hloop : L_r2_Read_l0 ((a : Int), (n : Int), f, [], (a : Int)) = some (readL f.blocks a (min (a + n) sz - a)) := by
    refine loop_to (fun i => ((a : Int), (n : Int), f, readL f.blocks a i, ((a + i : Nat) : Int))) (min (a + n) sz - a) (fun i hi => ?_) ?_
    · have hb := e_r2_byteAt hf hl (a + i) (by omega)
      have hw := wrS (i := a + i) (by omega)
      have e : readL f.blocks a i ++ [bAt f.blocks (a + i)] = readL f.blocks a (i + 1) := by rw [← readL_add]; rfl
      simp only [tl_r2_Read_l0, hend, hsz]
      rw [run_iteT (by simp; omega), run_iteT (by simp; omega), run_bind hb, run_req (u8n _), u8b, e, run_req ⟨trivial, rmM (by rw [readL_len]; unfold SM; omega) (by omega)⟩, run_same, run_ret, hw]
      rfl
    · simp only [tl_r2_Read_l0, hend, hsz]
      by_cases c : a + (min (a + n) sz - a) < a + n
      · rw [run_iteT (by simp; omega), run_iteF (by simp; omega), run_same, run_ret]
      · rw [run_iteF (by simp; omega), run_same, run_ret]
  simp only [f_r2_Read, t_r2_Read]
  rw [run_bind hloop, run_same, run_ret]

end Go.Proofs.Ytjichafmpanegaa.VS
