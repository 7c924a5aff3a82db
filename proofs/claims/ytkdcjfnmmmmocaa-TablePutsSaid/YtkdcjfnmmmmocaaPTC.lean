/- Numbers, rows, tables as bytes. Conditions: none. -/
import Derived.Test.YtkdcjfnmmmmocaaPTB
namespace Go.Proofs.Ytkdcjfnmmmmocaa.VS
set_option maxRecDepth 100000
set_option linter.unusedVariables false
set_option linter.unusedSimpArgs false

theorem u8r (n : Int) : 0 ≤ IntKind.wrap .u8 n ∧ IntKind.wrap .u8 n < 256 := by
  have hb : (2 : Int) ^ IntKind.u8.bits = 256 := by decide
  have hs : IntKind.u8.signed = false := rfl
  unfold IntKind.wrap
  simp only [hb, hs, Bool.false_and, Bool.false_eq_true, if_false]
  omega
def byteOfInt (n : Int) : UInt8 := UInt8.ofNat (IntKind.wrap .u8 n).toNat
def byteAt (n : Int) (j : Nat) : UInt8 := byteOfInt (n.fdiv (2 ^ (8 * j)))
def fRest (n : Int) : Nat → List UInt8
  | 0 => []
  | j + 1 => byteAt n j :: fRest n j
def fFour (n : Int) : List UInt8 := fRest n 4
theorem fFour_len (n : Int) : (fFour n).length = 4 := rfl
theorem room1 {n : Nat} (h : n ≤ 10000000) : roomP n 1 := by unfold roomP; omega
theorem room24 {n : Nat} (h : n ≤ 10000000) : roomP n 24 := by unfold roomP; omega

theorem e_four0 (n : Int) : ∀ (j : Nat) (l : List UInt8), j ≤ 4 → l.length + j ≤ 100 → L_table_four_l0 (n, l, (j : Int) - 1) = some (l ++ fRest n j)
  | 0, l, _, _ => by
    refine fixT_out ?_
    simp [tl_table_four_l0, T.run, fRest]
  | j + 1, l, h, hl => by
    have e0 : ((j + 1 : Nat) : Int) - 1 = (j : Int) := by omega
    have e1 : IntKind.wrap .i64 (8 * (j : Int)) = 8 * (j : Int) := wrap64 (by omega) (by omega)
    have e2 : min (8 * (j : Int)).toNat IntKind.i64.bits = 8 * j := by
      rw [show IntKind.i64.bits = 64 from rfl]; omega
    have e3 : IntKind.wrap .i64 ((j : Int) - 1) = (j : Int) - 1 := wrap64 (by omega) (by omega)
    rw [e0, fRest, show l ++ byteAt n j :: fRest n j = (l ++ [byteAt n j]) ++ fRest n j by simp]
    refine (fixT_next (q := (n, l ++ [byteAt n j], (j : Int) - 1)) ?_).trans (e_four0 n j _ (by omega) (by simp; omega))
    have hg : decide ((j : Int) ≥ 0) = true := by simp
    have hr := u8r (n.fdiv ((2 : Int) ^ (8 * j)))
    simp only [tl_table_four_l0, T.run, hg, if_true, e1, e2, e3, if_pos hr, show ((0 : Int) ≤ 8 * (j : Int)) = True by simp; omega, true_and]
    rw [if_pos (room1 (by simp; omega))]
    rfl
theorem e_four (n : Int) : f_table_four n = some (fFour n) := by
  have h := e_four0 n 4 [] (by omega) (by simp)
  simp only [f_table_four, t_table_four, T.run]
  rw [show (3 : Int) = ((4 : Nat) : Int) - 1 by decide, h]
  rfl
/-! Numbers out of bytes -/

theorem or64 {x y : Int} {k : Nat} (hx : 0 ≤ x) (hk : x % 2 ^ k = 0) (hy : 0 ≤ y) (hyk : y < 2 ^ k) (hs : x + y < 9223372036854775808) :
    IntKind.wrap .i64 ((BitVec.ofInt IntKind.i64.bits x ||| BitVec.ofInt IntKind.i64.bits y).toNat : Int) = x + y := by
  obtain ⟨a, rfl⟩ := Int.eq_ofNat_of_zero_le hx
  obtain ⟨b, rfl⟩ := Int.eq_ofNat_of_zero_le hy
  have hk : a % 2 ^ k = 0 := by exact_mod_cast hk
  have hyk : b < 2 ^ k := by exact_mod_cast hyk
  have hs : a + b < 9223372036854775808 := by omega
  have e1 : (BitVec.ofInt IntKind.i64.bits (a : Int) ||| BitVec.ofInt IntKind.i64.bits (b : Int)).toNat = a ||| b := by
    rw [BitVec.toNat_or]
    have : ∀ q : Nat, q < 9223372036854775808 → (BitVec.ofInt IntKind.i64.bits (q : Int)).toNat = q := fun q hq => by
      rw [BitVec.ofInt_natCast, BitVec.toNat_ofNat]
      exact Nat.mod_eq_of_lt (by show q < 2 ^ 64; omega)
    rw [this a (by omega), this b (by omega)]
  have e2 : a ||| b = a + b := by
    obtain ⟨q, rfl⟩ := Nat.dvd_of_mod_eq_zero hk
    exact (Nat.two_pow_add_eq_or_of_lt hyk q).symm
  rw [e1, e2, wrap64 (by omega) (by omega)]
  omega
theorem byte_lt (b : UInt8) : (b.toNat : Int) < 256 := by have := b.toNat_lt; omega
def numGo (a : Int) : List UInt8 → Int
  | [] => a
  | b :: r => numGo (a * 256 + (b.toNat : Int)) r
def fNum (b : List UInt8) : Int := ((b.getD 0 0).toNat : Int) * 16777216 + ((b.getD 1 0).toNat : Int) * 65536 + ((b.getD 2 0).toNat : Int) * 256 + ((b.getD 3 0).toNat : Int)
theorem fNum_range (b : List UInt8) : 0 ≤ fNum b ∧ fNum b < 4294967296 := by
  have h0 := byte_lt (b.getD 0 0); have h1 := byte_lt (b.getD 1 0); have h2 := byte_lt (b.getD 2 0); have h3 := byte_lt (b.getD 3 0)
  unfold fNum; omega
theorem num_eq {b : List UInt8} (h : 4 ≤ b.length) : numGo 0 (b.take 4) = fNum b := by
  match b, h with
  | x0 :: x1 :: x2 :: x3 :: r, _ =>
    show ((((0 : Int) * 256 + x0.toNat) * 256 + x1.toNat) * 256 + x2.toNat) * 256 + x3.toNat = (x0.toNat : Int) * 16777216 + (x1.toNat : Int) * 65536 + (x2.toNat : Int) * 256 + (x3.toNat : Int)
    omega
theorem e_num0 (b : List UInt8) (hb4 : b.length = 4) : ∀ (k i : Nat) (a : Int), i + k = 4 → 0 ≤ a → a < 256 ^ i → L_table_number_l0 (a, b, (b.length : Int), (i : Int)) = some (numGo a (b.drop i))
  | 0, i, a, h, _, _ => by
    obtain rfl : i = 4 := by omega
    refine fixT_out ?_
    rw [List.drop_eq_nil_of_le (by omega)]
    simp [tl_table_number_l0, T.run, hb4, numGo]
  | k + 1, i, a, h, h0, h1 => by
    have hi : i < b.length := by omega
    have hd : b.drop i = b[i] :: b.drop (i + 1) := List.drop_eq_getElem_cons hi
    have hg := getD_intN (z := GT.u8.nought) hi
    have hp : (256 : Int) ^ (i + 1) = 256 ^ i * 256 := Int.pow_succ _ _
    have hq : (256 : Int) ^ i ≤ 16777216 := by
      have : i = 0 ∨ i = 1 ∨ i = 2 ∨ i = 3 := by omega
      rcases this with rfl | rfl | rfl | rfl <;> decide
    have hb := byte_lt b[i]
    have e : IntKind.wrap .i64 ((BitVec.ofInt IntKind.i64.bits (IntKind.wrap .i64 (a * (2 : Int) ^ min (Int.toNat 8) IntKind.i64.bits)) ||| BitVec.ofInt IntKind.i64.bits (IntKind.wrap .i64 ((b[i]).toNat : Int))).toNat : Int) = a * 256 + (b[i].toNat : Int) := by
      rw [show (2 : Int) ^ min (Int.toNat 8) IntKind.i64.bits = 256 from rfl, wrap64 (n := a * 256) (by omega) (by omega), wrap64 (n := (b[i].toNat : Int)) (by omega) (by omega)]
      exact or64 (k := 8) (by omega) (by omega) (by omega) (by omega) (by omega)
    have hbd : (0 : Int) ≤ (i : Int) ∧ (i : Int) < (b.length : Int) := by omega
    refine (fixT_next (q := (a * 256 + (b[i].toNat : Int), b, (b.length : Int), ((i + 1 : Nat) : Int))) ?_).trans ?_
    · simp only [tl_table_number_l0, T.run, decide_eq_true hbd.2, if_true, if_pos hbd, hg, e, wrapN hi (by omega : b.length ≤ 1000000000000), show ((0 : Int) ≤ 8) = True by simp]
    · rw [hd, numGo]
      exact e_num0 b hb4 k (i + 1) _ (by omega) (by omega) (by rw [hp]; omega)
theorem e_num (b : List UInt8) (h : 4 ≤ b.length) : f_table_number b = some (fNum b) := by
  have k := e_num0 (b.take 4) (by simp; omega) 4 0 0 (by omega) (by omega) (by decide)
  simp only [f_table_number, t_table_number, T.run]
  rw [if_pos (by omega)]
  simp only [Int.toNat_zero, List.drop_zero]
  rw [show Int.toNat 4 = 4 from rfl]
  replace k : L_table_number_l0 (0, b.take 4, ((b.take 4).length : Int), 0) = _ := k
  rw [k, List.drop_zero, num_eq h]
  rfl
theorem rnum_eq (x0 x1 x2 x3 : Int) (h0 : 0 ≤ x0 ∧ x0 < 256) (h1 : 0 ≤ x1 ∧ x1 < 256) (h2 : 0 ≤ x2 ∧ x2 < 256) (h3 : 0 ≤ x3 ∧ x3 < 256) :
    IntKind.wrap .i64 ((BitVec.ofInt IntKind.i64.bits (IntKind.wrap .i64 ((BitVec.ofInt IntKind.i64.bits (IntKind.wrap .i64 ((BitVec.ofInt IntKind.i64.bits (IntKind.wrap .i64 (IntKind.wrap .i64 x0 * (2 : Int) ^ min (Int.toNat 24) IntKind.i64.bits)) |||
      BitVec.ofInt IntKind.i64.bits (IntKind.wrap .i64 (IntKind.wrap .i64 x1 * (2 : Int) ^ min (Int.toNat 16) IntKind.i64.bits))).toNat : Int)) |||
      BitVec.ofInt IntKind.i64.bits (IntKind.wrap .i64 (IntKind.wrap .i64 x2 * (2 : Int) ^ min (Int.toNat 8) IntKind.i64.bits))).toNat : Int)) ||| BitVec.ofInt IntKind.i64.bits (IntKind.wrap .i64 x3)).toNat : Int) = x0 * 16777216 + x1 * 65536 + x2 * 256 + x3 := by
  rw [show (2 : Int) ^ min (Int.toNat 24) IntKind.i64.bits = 16777216 from rfl, show (2 : Int) ^ min (Int.toNat 16) IntKind.i64.bits = 65536 from rfl, show (2 : Int) ^ min (Int.toNat 8) IntKind.i64.bits = 256 from rfl,
    wrap64 (n := x0) (by omega) (by omega), wrap64 (n := x1) (by omega) (by omega), wrap64 (n := x2) (by omega) (by omega), wrap64 (n := x3) (by omega) (by omega),
    wrap64 (n := x0 * 16777216) (by omega) (by omega), wrap64 (n := x1 * 65536) (by omega) (by omega), wrap64 (n := x2 * 256) (by omega) (by omega)]
  rw [or64 (k := 24) (x := x0 * 16777216) (y := x1 * 65536) (by omega) (by omega) (by omega) (by omega) (by omega)]
  rw [or64 (k := 16) (x := x0 * 16777216 + x1 * 65536) (y := x2 * 256) (by omega) (by omega) (by omega) (by omega) (by omega)]
  rw [or64 (k := 8) (y := x3) (by omega) (by omega) (by omega) (by omega) (by omega)]
/-! Rows one behind another -/

theorem e_catB (a b c d : List UInt8) (h : a.length + b.length + c.length + d.length ≤ 100000) : f_slices_Concat_byte [a, b, c, d] = some (a ++ b ++ c ++ d) := by
  have wr : ∀ n : Int, 0 ≤ n → n ≤ 1000000 → IntKind.i64.wrap n = n := fun n h1 h2 => wrap64 (by omega) (by omega)
  have s0 : ∀ (x : List UInt8) (s : Int) (i : Nat), [a, b, c, d][i]? = some x → 0 ≤ s → s + x.length ≤ 100000 → L_slices_Concat_byte_l0 ([a, b, c, d], s, [a, b, c, d], 4, (i : Int)) = L_slices_Concat_byte_l0 ([a, b, c, d], s + x.length, [a, b, c, d], 4, ((i + 1 : Nat) : Int)) := by
    intro x s i hx hs hn
    obtain ⟨hi, hx'⟩ := List.getElem?_eq_some_iff.1 hx
    have hi' : i < 4 := hi
    refine fixT_next ?_
    have hbd : (0 : Int) ≤ (i : Int) ∧ (i : Int) < (([a, b, c, d] : List (List UInt8)).length : Int) := by simp only [List.length_cons, List.length_nil]; omega
    have hlt : decide ((i : Int) < 4) = true := by simp; omega
    simp only [tl_slices_Concat_byte_l0, T.run, hlt, if_true, if_pos hbd, getD_intN (z := GT.bss.nought) hi, hx', wr (s + x.length) (by omega) (by omega), wr ((i : Int) + 1) (by omega) (by omega), show decide (s + (x.length : Int) < 0) = false by simp; omega, Bool.false_eq_true, if_false]
    rfl
  have s1 : ∀ (x l : List UInt8) (i : Nat), [a, b, c, d][i]? = some x → l.length + x.length ≤ 100000 → L_slices_Concat_byte_l1 (l, [a, b, c, d], 4, (i : Int)) = L_slices_Concat_byte_l1 (l ++ x, [a, b, c, d], 4, ((i + 1 : Nat) : Int)) := by
    intro x l i hx hn
    obtain ⟨hi, hx'⟩ := List.getElem?_eq_some_iff.1 hx
    have hi' : i < 4 := hi
    refine fixT_next ?_
    have hbd : (0 : Int) ≤ (i : Int) ∧ (i : Int) < (([a, b, c, d] : List (List UInt8)).length : Int) := by simp only [List.length_cons, List.length_nil]; omega
    have hlt : decide ((i : Int) < 4) = true := by simp; omega
    simp only [tl_slices_Concat_byte_l1, T.run, hlt, if_true, if_pos hbd, getD_intN (z := GT.bss.nought) hi, hx', wr ((i : Int) + 1) (by omega) (by omega), true_and, if_pos (room1 (n := (l ++ x).length) (by simp; omega))]
    rfl
  simp only [f_slices_Concat_byte, t_slices_Concat_byte, T.run]
  have a0 := s0 a 0 0 rfl (by omega) (by omega)
  have a1 := s0 b (0 + a.length) 1 rfl (by omega) (by omega)
  have a2 := s0 c (0 + a.length + b.length) 2 rfl (by omega) (by omega)
  have a3 := s0 d (0 + a.length + b.length + c.length) 3 rfl (by omega) (by omega)
  have a4 : L_slices_Concat_byte_l0 ([a, b, c, d], 0 + a.length + b.length + c.length + d.length, [a, b, c, d], 4, ((4 : Nat) : Int)) = some ([a, b, c, d], (0 + (a.length : Int) + b.length + c.length + d.length : Int)) := fixT_out (by simp [tl_slices_Concat_byte_l0, T.run])
  have b0 := s1 a [] 0 rfl (by simp; omega)
  have b1 := s1 b ([] ++ a) 1 rfl (by simp; omega)
  have b2 := s1 c ([] ++ a ++ b) 2 rfl (by simp; omega)
  have b3 := s1 d ([] ++ a ++ b ++ c) 3 rfl (by simp; omega)
  have b4 : L_slices_Concat_byte_l1 ([] ++ a ++ b ++ c ++ d, [a, b, c, d], 4, ((4 : Nat) : Int)) = some ([] ++ a ++ b ++ c ++ d) := fixT_out (by simp [tl_slices_Concat_byte_l1, T.run])
  have A := (((a0.trans a1).trans a2).trans a3).trans a4
  have B := (((b0.trans b1).trans b2).trans b3).trans b4
  replace A : L_slices_Concat_byte_l0 ([a, b, c, d], 0, [a, b, c, d], (([a, b, c, d] : List (List UInt8)).length : Int), 0) = _ := A
  replace B : L_slices_Concat_byte_l1 ([], [a, b, c, d], (([a, b, c, d] : List (List UInt8)).length : Int), 0) = _ := B
  rw [A]
  simp only [Option.bind_some]
  rw [if_pos ⟨by omega, room1 (by omega)⟩]
  simp only [if_true, B, Option.bind_some, List.nil_append]
theorem e_catR (a b : List Rwo) (h : a.length + b.length ≤ 100000) : f_slices_Concat_Row [a, b] = some (a ++ b) := by
  have wr : ∀ n : Int, 0 ≤ n → n ≤ 1000000 → IntKind.i64.wrap n = n := fun n h1 h2 => wrap64 (by omega) (by omega)
  have s0 : ∀ (x : List Rwo) (s : Int) (i : Nat), [a, b][i]? = some x → 0 ≤ s → s + x.length ≤ 100000 → L_slices_Concat_Row_l0 ([a, b], s, [a, b], 2, (i : Int)) = L_slices_Concat_Row_l0 ([a, b], s + x.length, [a, b], 2, ((i + 1 : Nat) : Int)) := by
    intro x s i hx hs hn
    obtain ⟨hi, hx'⟩ := List.getElem?_eq_some_iff.1 hx
    have hi' : i < 2 := hi
    refine fixT_next ?_
    have hbd : (0 : Int) ≤ (i : Int) ∧ (i : Int) < (([a, b] : List (List Rwo)).length : Int) := by simp only [List.length_cons, List.length_nil]; omega
    have hlt : decide ((i : Int) < 2) = true := by simp; omega
    simp only [tl_slices_Concat_Row_l0, T.run, hlt, if_true, if_pos hbd, getD_intN (z := GT.rss.nought) hi, hx', wr (s + x.length) (by omega) (by omega), wr ((i : Int) + 1) (by omega) (by omega), show decide (s + (x.length : Int) < 0) = false by simp; omega, Bool.false_eq_true, if_false]
    rfl
  have s1 : ∀ (x l : List Rwo) (i : Nat), [a, b][i]? = some x → l.length + x.length ≤ 100000 → L_slices_Concat_Row_l1 (l, [a, b], 2, (i : Int)) = L_slices_Concat_Row_l1 (l ++ x, [a, b], 2, ((i + 1 : Nat) : Int)) := by
    intro x l i hx hn
    obtain ⟨hi, hx'⟩ := List.getElem?_eq_some_iff.1 hx
    have hi' : i < 2 := hi
    refine fixT_next ?_
    have hbd : (0 : Int) ≤ (i : Int) ∧ (i : Int) < (([a, b] : List (List Rwo)).length : Int) := by simp only [List.length_cons, List.length_nil]; omega
    have hlt : decide ((i : Int) < 2) = true := by simp; omega
    simp only [tl_slices_Concat_Row_l1, T.run, hlt, if_true, if_pos hbd, getD_intN (z := GT.rss.nought) hi, hx', wr ((i : Int) + 1) (by omega) (by omega), true_and, if_pos (room24 (n := (l ++ x).length) (by simp; omega))]
    rfl
  simp only [f_slices_Concat_Row, t_slices_Concat_Row, T.run]
  have a0 := s0 a 0 0 rfl (by omega) (by omega)
  have a1 := s0 b (0 + a.length) 1 rfl (by omega) (by omega)
  have a4 : L_slices_Concat_Row_l0 ([a, b], 0 + a.length + b.length, [a, b], 2, ((2 : Nat) : Int)) = some ([a, b], (0 + (a.length : Int) + b.length : Int)) := fixT_out (by simp [tl_slices_Concat_Row_l0, T.run])
  have b0 := s1 a [] 0 rfl (by simp; omega)
  have b1 := s1 b ([] ++ a) 1 rfl (by simp; omega)
  have b4 : L_slices_Concat_Row_l1 ([] ++ a ++ b, [a, b], 2, ((2 : Nat) : Int)) = some ([] ++ a ++ b) := fixT_out (by simp [tl_slices_Concat_Row_l1, T.run])
  have A := (a0.trans a1).trans a4
  have B := (b0.trans b1).trans b4
  replace A : L_slices_Concat_Row_l0 ([a, b], 0, [a, b], (([a, b] : List (List Rwo)).length : Int), 0) = _ := A
  replace B : L_slices_Concat_Row_l1 ([], [a, b], (([a, b] : List (List Rwo)).length : Int), 0) = _ := B
  rw [A]
  simp only [Option.bind_some]
  rw [if_pos ⟨by omega, room24 (by omega)⟩]
  simp only [if_true, B, Option.bind_some, List.nil_append]
end Go.Proofs.Ytkdcjfnmmmmocaa.VS
