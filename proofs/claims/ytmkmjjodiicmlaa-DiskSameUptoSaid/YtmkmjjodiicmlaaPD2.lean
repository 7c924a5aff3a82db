/- What chapter 3 asks of a disk, in plain words. Conditions: none. -/
import Derived.Test.YtmkmjjodiicmlaaPD1
namespace Go.Proofs.Ytmkmjjodiicmlaa.VS
set_option maxRecDepth 100000
set_option linter.unusedVariables false
set_option linter.unusedSimpArgs false

/-! ### Files -/

/-- A block that may be in a file. -/
structure BlkOK (size : Int) (b : Blk) : Prop where
  lo : 0 ≤ b.pos
  hi : b.pos < 32768
  siz : b.pos * 16 < size
  len : b.data.length = 16
  rest : ∀ (k : Nat) (h : k < b.data.length), size ≤ b.pos * 16 + (k : Int) → b.data[k] = 0

structure FilOK (f : Fil) : Prop where
  lo : 0 ≤ f.size
  hi : f.size ≤ 32768
  blk : ∀ i (h : i < f.blocks.length), BlkOK f.size f.blocks[i]
  sorted : ∀ i (h : i + 1 < f.blocks.length), (f.blocks[i]'(by omega)).pos < f.blocks[i + 1].pos

theorem e_r2_Is (f : Fil) (hs : f.blocks.length ≤ SM) : ∃ b, f_r2_Is f = some b ∧ (b = true ↔ FilOK f) := by
  by_cases h1 : f.size < 0
  · refine ⟨false, ?_, ?_⟩
    · simp only [f_r2_Is, t_r2_Is]; rw [run_iteT (by simpa using h1), run_ret]
    · simp only [Bool.false_eq_true, false_iff]; intro h; have := h.lo; omega
  by_cases h2 : f.size > 32768
  · refine ⟨false, ?_, ?_⟩
    · simp only [f_r2_Is, t_r2_Is]; rw [run_iteF (by simpa using h1), run_iteT (by simpa using h2), run_ret]
    · simp only [Bool.false_eq_true, false_iff]; intro h; have := h.hi; omega
  have key := loop_all (t := fun q : Fil × Int => tl_r2_Is_l0 q.1 q.2) f.blocks.length (fun i => ∀ h : i < f.blocks.length, BlkOK f.size f.blocks[i] ∧ (0 < i → (f.blocks[i - 1]'(by omega)).pos < f.blocks[i].pos)) (fun i => (f, (i : Int))) (.inl false) (.inr ())
    (fun i hi _ => by
      have hw := wrS (i := i) (by unfold SM at hs; omega)
      simp only [tl_r2_Is_l0]
      rw [run_iteT (by simp; omega), run_req (inb hi)]
      simp only [getD_int hi]
      by_cases c1 : f.blocks[i].pos < 0
      · exact .inr ⟨fun h => by have := (h hi).1.lo; omega, by rw [run_iteT (by simpa using c1), run_ret]⟩
      rw [run_iteF (by simpa using c1)]
      by_cases c2 : f.blocks[i].pos ≥ 32768
      · exact .inr ⟨fun h => by have := (h hi).1.hi; omega, by rw [run_iteT (by simpa using c2), run_ret]⟩
      rw [run_iteF (by simpa using c2)]
      have e16 : IntKind.i64.wrap (f.blocks[i].pos * 16) = f.blocks[i].pos * 16 := wr (by omega) (by omega)
      rw [e16]
      by_cases c3 : f.blocks[i].pos * 16 ≥ f.size
      · exact .inr ⟨fun h => by have := (h hi).1.siz; omega, by rw [run_iteT (by simpa using c3), run_ret]⟩
      rw [run_iteF (by simpa using c3)]
      by_cases c4 : f.blocks[i].data.length = 16
      case neg => exact .inr ⟨fun h => c4 (h hi).1.len, by rw [run_iteT (by simp; omega), run_ret]⟩
      rw [run_iteF (by simp [c4])]
      -- the rest of the block
      have inner : (((∀ (k : Nat) (h : k < 16), f.size ≤ f.blocks[i].pos * 16 + (k : Int) → f.blocks[i].data[k] = 0) ∧ L_r2_Is_l0_0 (f, (i : Int), f.blocks[i], 0) = some (.inr (f, (i : Int)))) ∨
          ((¬ ∀ (k : Nat) (h : k < 16), f.size ≤ f.blocks[i].pos * 16 + (k : Int) → f.blocks[i].data[k] = 0) ∧ L_r2_Is_l0_0 (f, (i : Int), f.blocks[i], 0) = some (.inl false))) := by
        have := loop_all (t := fun q : Fil × (Int × (Blk × Int)) => tl_r2_Is_l0_0 q.1 q.2.1 q.2.2.1 q.2.2.2) 16 (fun k => ∀ h : k < 16, f.size ≤ f.blocks[i].pos * 16 + (k : Int) → f.blocks[i].data[k] = 0) (fun k => (f, (i : Int), f.blocks[i], (k : Int))) (.inl false) (.inr (f, (i : Int)))
          (fun k hk _ => by
            have hw := wrS (i := k) (by omega)
            have hkl : k < f.blocks[i].data.length := by omega
            have e17 : IntKind.i64.wrap (f.blocks[i].pos * 16 + (k : Int)) = f.blocks[i].pos * 16 + (k : Int) := wr (by omega) (by omega)
            simp only [tl_r2_Is_l0_0, e16, e17]
            rw [run_iteT (by simp; omega)]
            by_cases d1 : f.blocks[i].pos * 16 + (k : Int) ≥ f.size
            · rw [run_iteT (by simpa using d1), run_req (inb hkl), getD_int hkl]
              by_cases d2 : f.blocks[i].data[k] = 0
              · exact .inl ⟨fun _ _ => d2, by rw [run_iteF (by rw [d2]; rfl), run_ret, hw]⟩
              · refine .inr ⟨fun h => d2 (h hk d1), ?_⟩
                rw [run_iteT, run_ret]
                simp only [bne_iff_ne, ne_eq]
                intro e
                exact d2 (UInt8.toNat_inj.1 (by simp; omega))
            · exact .inl ⟨fun _ h => absurd h d1, by rw [run_iteF (by simpa using d1), run_ret, hw]⟩)
          (fun _ => by
            simp only [tl_r2_Is_l0_0]
            rw [run_iteF (by simp), run_ret])
        rcases this with ⟨a, b⟩ | ⟨a, b⟩
        · exact .inl ⟨fun k h => a k h h, b⟩
        · exact .inr ⟨fun h => a fun k hk hk' => h k hk, b⟩
      have blk : (∀ (k : Nat) (h : k < 16), f.size ≤ f.blocks[i].pos * 16 + (k : Int) → f.blocks[i].data[k] = 0) → BlkOK f.size f.blocks[i] := fun h => ⟨by omega, by omega, by omega, c4, fun k hk => h k (by omega)⟩
      have blk' : BlkOK f.size f.blocks[i] → (∀ (k : Nat) (h : k < 16), f.size ≤ f.blocks[i].pos * 16 + (k : Int) → f.blocks[i].data[k] = 0) := fun h k hk => h.rest k (by omega)
      by_cases h0 : i = 0
      · subst h0
        rw [run_iteF (by simp)]
        rcases inner with ⟨a, b⟩ | ⟨a, b⟩
        · exact .inl ⟨fun _ => ⟨blk a, fun h => absurd h (Nat.lt_irrefl _)⟩, by rw [run_bind b, run_caseR, run_ret, hw]⟩
        · exact .inr ⟨fun h => a (blk' (h hi).1), by rw [run_bind b, run_caseL, run_ret]⟩
      · have hp := wrP (i := i) (by omega) (by unfold SM at hs; omega)
        have hi1 : i - 1 < f.blocks.length := by omega
        rw [run_iteT (by simp; omega)]
        simp only [hp]
        rw [run_req (inb hi1)]
        simp only [getD_int hi1]
        by_cases c5 : f.blocks[i].pos ≤ f.blocks[i - 1].pos
        · exact .inr ⟨fun h => by have := (h hi).2 (by omega); omega, by rw [run_iteT (by simpa using c5), run_ret]⟩
        rw [run_iteF (by simpa using c5)]
        rcases inner with ⟨a, b⟩ | ⟨a, b⟩
        · exact .inl ⟨fun _ => ⟨blk a, fun _ => by omega⟩, by rw [run_bind b, run_caseR, run_ret, hw]⟩
        · exact .inr ⟨fun h => a (blk' (h hi).1), by rw [run_bind b, run_caseL, run_ret]⟩)
    (fun _ => by
      simp only [tl_r2_Is_l0]
      rw [run_iteF (by simp), run_ret])
  have toOK : (∀ i (h : i < f.blocks.length), ∀ h : i < f.blocks.length, BlkOK f.size f.blocks[i] ∧ (0 < i → (f.blocks[i - 1]'(by omega)).pos < f.blocks[i].pos)) ↔ FilOK f := by
    constructor
    · intro h
      exact ⟨by omega, by omega, fun i hi => (h i hi hi).1, fun i hi => by have := (h (i + 1) hi hi).2 (by omega); simpa using this⟩
    · intro h i hi _
      refine ⟨h.blk i hi, fun h0 => ?_⟩
      have := h.sorted (i - 1) (by omega)
      have e : i - 1 + 1 = i := by omega
      simpa [e] using this
  rcases key with ⟨a, b⟩ | ⟨a, b⟩
  · refine ⟨true, ?_, by simpa using toOK.1 a⟩
    have b : L_r2_Is_l0 (f, 0) = _ := b
    simp only [f_r2_Is, t_r2_Is]
    rw [run_iteF (by simpa using h1), run_iteF (by simpa using h2), run_bind b, run_caseR, run_ret]
  · refine ⟨false, ?_, by simpa using fun h => a (toOK.2 h)⟩
    have b : L_r2_Is_l0 (f, 0) = _ := b
    simp only [f_r2_Is, t_r2_Is]
    rw [run_iteF (by simpa using h1), run_iteF (by simpa using h2), run_bind b, run_caseL, run_ret]

/-! ### Names -/

structure NameOK (s : Str) : Prop where
  no : ∀ i (h : i < s.length), s[i] ≠ 47 ∧ s[i] ≠ 0
  lo : 1 ≤ s.length
  hi : s.length ≤ 24
  one : s ≠ [46]
  two : s ≠ [46, 46]

theorem u8_eq {b : UInt8} {n : Nat} (hn : n < 256) : ((b.toNat : Int) == (n : Int)) = (b == UInt8.ofNat n) := by
  rw [Bool.eq_iff_iff]
  simp only [beq_iff_eq]
  constructor
  · intro h
    have h : b.toNat = n := by omega
    rw [← h]; simp
  · rintro rfl
    simp; omega

theorem e_r1_Named (s : Str) (hs : s.length ≤ 4611686018427387000) : ∃ b, f_r1_Named s = some b ∧ (b = true ↔ NameOK s) := by
  have key := loop_all (t := fun q : Str × Int => tl_r1_Named_l0 q.1 q.2) s.length (fun i => ∀ h : i < s.length, s[i] ≠ 47 ∧ s[i] ≠ 0) (fun i => (s, (i : Int))) (.inl false) (.inr s)
    (fun i hi _ => by
      have hw := wrS (i := i) (by omega)
      have e47 := u8_eq (b := s[i]) (n := 47) (by omega)
      have e0 := u8_eq (b := s[i]) (n := 0) (by omega)
      have e47 : (((s[i].toNat : Nat) : Int) == (47 : Int)) = (s[i] == 47) := e47
      have e0 : (((s[i].toNat : Nat) : Int) == (0 : Int)) = (s[i] == 0) := e0
      simp only [tl_r1_Named_l0]
      rw [run_iteT (by simp; omega), run_req (inb hi)]
      simp only [getD_int hi]
      rw [e47]
      by_cases c1 : s[i] = 47
      · exact .inr ⟨fun h => (h hi).1 c1, by rw [run_iteT (by simpa using c1), run_ret]⟩
      rw [run_iteF (by simpa using c1), run_req (inb hi), e0]
      by_cases c2 : s[i] = 0
      · exact .inr ⟨fun h => (h hi).2 c2, by rw [run_iteT (by simpa using c2), run_ret]⟩
      exact .inl ⟨fun _ => ⟨c1, c2⟩, by rw [run_iteF (by simpa using c2), run_ret, hw]⟩)
    (fun _ => by
      simp only [tl_r1_Named_l0]
      rw [run_iteF (by simp), run_ret])
  rcases key with ⟨a, b⟩ | ⟨a, b⟩
  · have b : L_r1_Named_l0 (s, 0) = _ := b
    simp only [f_r1_Named, t_r1_Named]
    rw [run_bind b, run_caseR]
    by_cases c1 : (s.length : Int) ≥ 1
    case neg => exact ⟨false, by rw [run_iteF (by simpa using c1), run_ret], by simp only [Bool.false_eq_true, false_iff]; intro h; have := h.lo; omega⟩
    rw [run_iteT (by simpa using c1)]
    by_cases c2 : (s.length : Int) ≤ 24
    case neg => exact ⟨false, by rw [run_iteF (by simpa using c2), run_ret], by simp only [Bool.false_eq_true, false_iff]; intro h; have := h.hi; omega⟩
    rw [run_iteT (by simpa using c2)]
    by_cases c3 : s = [46]
    · exact ⟨false, by rw [run_iteF (by simpa using c3), run_ret], by simp only [Bool.false_eq_true, false_iff]; intro h; exact h.one c3⟩
    rw [run_iteT (by simpa using c3), run_ret]
    refine ⟨_, rfl, ?_⟩
    simp only [Bool.not_eq_true', beq_eq_false_iff_ne]
    exact ⟨fun h => ⟨fun i hi => a i hi hi, by omega, by omega, c3, h⟩, fun h => h.two⟩
  · refine ⟨false, ?_, by simp only [Bool.false_eq_true, false_iff]; intro h; exact a fun i hi _ => h.no i hi⟩
    have b : L_r1_Named_l0 (s, 0) = _ := b
    simp only [f_r1_Named, t_r1_Named]
    rw [run_bind b, run_caseL, run_ret]

/-! ### Nodes -/

structure NodOK (d : Dsk) (n : Nod) : Prop where
  kind1 : 1 ≤ n.kind
  kind3 : n.kind ≤ 3
  mode0 : 0 ≤ n.mode
  mode1 : n.mode ≤ 511
  file : FilOK n.file
  plain : n.kind ≠ 1 → n.file.size ≤ 0 ∧ n.file.blocks = []
  dir : n.kind ≠ 2 → n.names = []
  link : n.kind = 3 ↔ n.target ≠ []
  tlen : n.target.length ≤ 120
  named : ∀ i (h : i < n.names.length), (getN d.nodes n.names[i].ino).2 = true ∧ NameOK n.names[i].name
  sorted : ∀ i (h : i + 1 < n.names.length), bytesLt (n.names[i]'(by omega)).name n.names[i + 1].name = true

end Go.Proofs.Ytmkmjjodiicmlaa.VS
