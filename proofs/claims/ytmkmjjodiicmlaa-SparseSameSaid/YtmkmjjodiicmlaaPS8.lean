/- Chapter 2: two files that hold the same. Conditions: none. -/
import Derived.Test.YtmkmjjodiicmlaaPS7
namespace Go.Proofs.Ytmkmjjodiicmlaa.VS
set_option maxRecDepth 100000
set_option linter.unusedVariables false
set_option linter.unusedSimpArgs false

theorem e_sparse_Same {f g : Fil} (hf : FilS f.blocks) (hg : FilS g.blocks) (lf : f.blocks.length ≤ SM) (lg : g.blocks.length ≤ SM) (a b : Nat) (ha : f.size = (a : Int)) (hb : g.size = (b : Int)) (hab : a ≤ 1000000) (hbb : b ≤ 1000000) :
    f_sparse_Same f g = some (decide (a = b) && (readL f.blocks 0 a == readL g.blocks 0 a)) := by
  simp only [f_sparse_Same, t_sparse_Same]
  by_cases c : a = b
  · subst c
    have h1 := e_sparse_Read hf lf a 0 a ha (by omega) hab
    have h2 := e_sparse_Read hg lg a 0 a hb (by omega) hab
    rw [show min (0 + a) a - 0 = a by omega] at h1 h2
    have he : f_bytes_Equal (readL f.blocks 0 a) (readL g.blocks 0 a) = some (readL f.blocks 0 a == readL g.blocks 0 a) := by simp only [f_bytes_Equal, t_bytes_Equal]; rw [run_ret]
    rw [run_iteT (by rw [ha, hb]; simp), ha, hb]
    have h1 : f_sparse_Read f 0 (a : Int) = some (readL f.blocks 0 a) := h1
    have h2 : f_sparse_Read g 0 (a : Int) = some (readL g.blocks 0 a) := h2
    rw [run_bind h1, run_bind h2, run_bind he, run_ret]
    simp
  · rw [run_iteF (by rw [ha, hb]; simp; omega), run_ret]
    simp [c]

theorem e_same_size {f g : Fil} (h : f.size ≠ g.size) : f_sparse_Same f g = some false := by
  simp only [f_sparse_Same, t_sparse_Same]
  rw [run_iteF (by simpa using h), run_ret]

theorem readL_congr {l l' : List Blk} {a n : Nat} (h : ∀ i, a ≤ i → i < a + n → bAt l i = bAt l' i) : readL l a n = readL l' a n := by
  unfold readL
  apply List.map_congr_left
  intro i hi
  have := List.mem_range'_1.1 hi
  exact h i this.1 this.2

theorem readL_ne {l l' : List Blk} {a n i : Nat} (h1 : a ≤ i) (h2 : i < a + n) (h : bAt l i ≠ bAt l' i) : readL l a n ≠ readL l' a n := fun e => by
  have h3 : (readL l a n)[i - a]? = (readL l' a n)[i - a]? := by rw [e]
  unfold readL at h3
  rw [List.getElem?_map, List.getElem?_map, List.getElem?_range' (by omega)] at h3
  simp only [Option.map_some, Option.some.injEq] at h3
  rw [show a + 1 * (i - a) = i by omega] at h3
  exact h h3

theorem xor_eq (x c : UInt8) : UInt8.ofNat (IntKind.u8.wrap (↑(BitVec.ofInt IntKind.u8.bits (↑(UInt8.toNat x) : Int) ^^^ BitVec.ofInt IntKind.u8.bits (↑c.toNat : Int)).toNat : Int)).toNat = x ^^^ c ∧
    0 ≤ IntKind.u8.wrap (↑(BitVec.ofInt IntKind.u8.bits (↑(UInt8.toNat x) : Int) ^^^ BitVec.ofInt IntKind.u8.bits (↑c.toNat : Int)).toNat : Int) ∧ IntKind.u8.wrap (↑(BitVec.ofInt IntKind.u8.bits (↑(UInt8.toNat x) : Int) ^^^ BitVec.ofInt IntKind.u8.bits (↑c.toNat : Int)).toNat : Int) < 256 := by
  have e : ∀ y : UInt8, BitVec.ofInt IntKind.u8.bits (↑(UInt8.toNat y) : Int) = y.toBitVec := fun y => by
    show BitVec.ofInt 8 (↑(UInt8.toNat y) : Int) = y.toBitVec
    apply BitVec.eq_of_toNat_eq
    have := y.toNat_lt
    simp [BitVec.toNat_ofInt]
  have e2 : BitVec.ofInt IntKind.u8.bits (↑(UInt8.toNat x) : Int) ^^^ BitVec.ofInt IntKind.u8.bits (↑c.toNat : Int) = (x ^^^ c).toBitVec := by
    rw [e, e]; rfl
  have h1 : (BitVec.ofInt IntKind.u8.bits (↑(UInt8.toNat x) : Int) ^^^ BitVec.ofInt IntKind.u8.bits (↑c.toNat : Int)).toNat = (x ^^^ c).toNat := by rw [e2]; rfl
  rw [h1]
  have h2 := (x ^^^ c).toNat_lt
  have h3 : IntKind.u8.wrap ((x ^^^ c).toNat : Int) = ((x ^^^ c).toNat : Int) := by
    generalize (x ^^^ c).toNat = n at *
    have : ((n : Nat) : Int) % (2 ^ IntKind.u8.bits : Int) = n := by
      show ((n : Nat) : Int) % (2 ^ 8 : Int) = n
      omega
    unfold IntKind.wrap
    rw [this]
    rfl
  rw [h3]
  refine ⟨?_, by omega, by omega⟩
  simp

theorem law_SparseSame (a s : Int) (b : List UInt8) (c : UInt8) : f_law2_SparseSame a s b c = some true := by
  have hk := e_law2_known
  simp only [f_law2_SparseSame, t_law2_SparseSame]
  by_cases c1 : s < 1
  · rw [run_iteT (by simpa using c1), run_ret]
  rw [run_iteF (by simpa using c1)]
  by_cases c2 : s > 1000
  · rw [run_iteT (by simpa using c2), run_ret]
  rw [run_iteF (by simpa using c2)]
  by_cases c3 : a < 0
  · rw [run_iteT (by simpa using c3), run_ret]
  rw [run_iteF (by simpa using c3)]
  by_cases c4 : a > 900
  · rw [run_iteT (by simpa using c4), run_ret]
  rw [run_iteF (by simpa using c4)]
  by_cases c5 : (b.length : Int) < 1
  · rw [run_iteT (by simpa using c5), run_ret]
  rw [run_iteF (by simpa using c5)]
  by_cases c6 : (b.length : Int) > 100
  · rw [run_iteT (by simpa using c6), run_ret]
  rw [run_iteF (by simpa using c6)]
  obtain ⟨s, rfl⟩ : ∃ k : Nat, s = (k : Int) := ⟨s.toNat, by omega⟩
  obtain ⟨a, rfl⟩ : ∃ k : Nat, a = (k : Int) := ⟨a.toNat, by omega⟩
  have hb : b ≠ [] := by intro e; rw [e] at c5; simp at c5
  have hb0 : 0 < b.length := List.length_pos_iff.2 hb
  have hsm : 8000 ≤ SM := by unfold SM; omega
  have hcut := e_sparse_Cut (f := ⟨0, []⟩) ⟨filS_nil, fun b hb => by simp at hb⟩ (by simp) (n := (s : Int)) (by omega) (by omega)
  have hcut : f_sparse_Cut ⟨0, []⟩ (s : Int) = some ⟨(s : Int), []⟩ := hcut
  rw [run_bind hcut]
  obtain ⟨l, w1, w2, w3, w4, w5, w6⟩ := e_sparse_Write (f := ⟨(s : Int), []⟩) filS_nil s a b rfl (by omega) (by simp only [List.length_nil]; omega) (by omega)
  have hwp := fun Q hQ => write_pos (f := ⟨(s : Int), []⟩) filS_nil s a b rfl (by omega) (by simp only [List.length_nil]; omega) (by omega) Q hQ (fun b hb => by simp at hb) w1
  rw [if_neg hb] at w1
  simp only [List.length_nil, Nat.zero_add] at w5
  generalize hmx : max s (a + b.length) = mx at w1
  rw [run_bind w1]
  have hl1 : l.length ≤ 100 := by omega
  have hmxb : mx ≤ 1000 := by omega
  obtain ⟨l2, f1, f2, f3, f4⟩ := e_r2_Full (f := ⟨(mx : Int), l⟩) w2 mx rfl (by omega) (show l.length + mx + 2 ≤ SM by omega)
  have f4 : l2.length ≤ l.length + mx + 1 := f4
  have f3 : ∀ i, bAt l2 i = bAt l i := f3
  rw [run_bind f1, run_req ⟨by omega, by omega⟩]
  have hg0 : b.getD (Int.toNat (0 : Int)) GT.u8.nought = b.getD 0 0 := rfl
  obtain ⟨x1, x2, x3⟩ := xor_eq (b.getD 0 0) c
  simp only [hg0]
  rw [run_req ⟨x2, x3⟩]
  simp only [x1]
  obtain ⟨l3, g1, g2, g3, g4, g5, g6⟩ := e_sparse_Write (f := ⟨(mx : Int), l2⟩) f2 mx a [b.getD 0 0 ^^^ c] rfl (by omega) (by simp only [List.length_singleton]; omega) (by simp only [List.length_singleton]; omega)
  rw [if_neg (by simp), List.length_singleton, show max mx (a + 1) = mx by omega] at g1
  have g5 : l3.length ≤ l2.length + 1 := g5
  rw [run_bind g1]
  have e12 : readL l 0 mx = readL l2 0 mx := readL_congr fun i _ _ => (f3 i).symm
  have s12 := e_sparse_Same (f := ⟨(mx : Int), l⟩) (g := ⟨(mx : Int), l2⟩) w2 f2 (show l.length ≤ SM by omega) (show l2.length ≤ SM by omega) mx mx rfl rfl (by omega) (by omega)
  have s21 := e_sparse_Same (f := ⟨(mx : Int), l2⟩) (g := ⟨(mx : Int), l⟩) f2 w2 (show l2.length ≤ SM by omega) (show l.length ≤ SM by omega) mx mx rfl rfl (by omega) (by omega)
  have s13 := e_sparse_Same (f := ⟨(mx : Int), l⟩) (g := ⟨(mx : Int), l3⟩) w2 g2 (show l.length ≤ SM by omega) (show l3.length ≤ SM by omega) mx mx rfl rfl (by omega) (by omega)
  dsimp only at s12 s21 s13
  have t12 : (decide (mx = mx) && (readL l 0 mx == readL l2 0 mx)) = true := by rw [e12]; simp
  have t21 : (decide (mx = mx) && (readL l2 0 mx == readL l 0 mx)) = true := by rw [e12]; simp
  rw [t12] at s12
  rw [t21] at s21
  rw [run_bind s12, run_iteT rfl, run_bind s21, run_iteT rfl, run_bind s13]
  have hba : bAt l a = b.getD 0 0 := by rw [w3, if_pos ⟨by omega, by omega⟩, Nat.sub_self]
  have hb3 : ∀ i, bAt l3 i = if i = a then b.getD 0 0 ^^^ c else bAt l i := fun i => by
    rw [g3]
    by_cases e : i = a
    · subst e
      rw [if_pos ⟨by omega, by simp⟩, if_pos rfl, Nat.sub_self]; rfl
    · rw [if_neg (by simp; omega), if_neg e, f3]
  have t13 : (decide (mx = mx) && (readL l 0 mx == readL l3 0 mx)) = ((↑c.toNat : Int) == (0 : Int)) := by
    rw [decide_eq_true rfl, Bool.true_and]
    by_cases hc : c = 0
    · subst hc
      have : readL l 0 mx = readL l3 0 mx := readL_congr fun i _ _ => by
        rw [hb3]
        by_cases e : i = a
        · rw [if_pos e, e, hba]; simp
        · rw [if_neg e]
      rw [this]; simp
    · have hne : bAt l a ≠ bAt l3 a := by
        rw [hb3, if_pos rfl, hba]
        intro e
        apply hc
        have : b.getD 0 0 ^^^ (b.getD 0 0 ^^^ c) = b.getD 0 0 ^^^ b.getD 0 0 := by rw [← e]
        rw [← UInt8.xor_assoc, UInt8.xor_self, UInt8.zero_xor] at this
        exact this
      have h1 := readL_ne (a := 0) (n := mx) (Nat.zero_le a) (by omega) hne
      have h2 : ¬ ((↑c.toNat : Int) = 0) := fun e => hc (by
        apply UInt8.toNat_inj.1
        simpa using e)
      rw [beq_eq_false_iff_ne.2 h1]
      exact (beq_eq_false_iff_ne.2 h2).symm
  rw [t13, run_iteT (by simp)]
  have hm1 : IntKind.i64.wrap ((mx : Int) - 1) = ((mx - 1 : Nat) : Int) := wrP (by omega) (by omega)
  have hcut2 := e_sparse_Cut (f := ⟨(mx : Int), l⟩) ⟨w2, hwp (fun k => 0 ≤ k ∧ k ≤ 1000000) fun k hk => ⟨by omega, by omega⟩⟩ (show l.length ≤ SM by omega) (n := ((mx - 1 : Nat) : Int)) (by omega) (by omega)
  simp only [hm1]
  rw [run_bind hcut2, run_bind (e_same_size (by show (mx : Int) ≠ ((mx - 1 : Nat) : Int); omega)), run_iteT (by rfl), run_bind hk, run_ret]

end Go.Proofs.Ytmkmjjodiicmlaa.VS
