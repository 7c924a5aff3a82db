/- Chapter 2: files cut. Conditions: none. -/
import Derived.Test.YtmkmjjodiicmlaaPS4
namespace Go.Proofs.Ytmkmjjodiicmlaa.VS
set_option maxRecDepth 100000
set_option linter.unusedVariables false
set_option linter.unusedSimpArgs false

theorem e_sparse_copiedD {f : Fil} (h : SmF f) : f_sparse_copiedD f = some (f.size, f.blocks, 0) := by
  obtain ⟨s, bs⟩ := f
  obtain ⟨h1, h2⟩ := h
  simp only at h1 h2
  have hl : L_sparse_copiedD_l0 (Fil.mk 0 [], (s, [], 0), bs, (bs.length : Int), 0) = some (Fil.mk 0 [], (s, bs, 0)) := by
    refine loop_to (fun i => (Fil.mk 0 [], (s, bs.take i, 0), bs, (bs.length : Int), (i : Int))) bs.length (fun i hi => ?_) ?_
    · have hw := wrS (i := i) (by unfold SM at h1; omega)
      have hd : f_bytes_Clone bs[i].data = some bs[i].data := e_clone (h2 _ (List.getElem_mem hi)) (by omega)
      have e : bs.take (i + 1) = bs.take i ++ [bs[i]] := by rw [List.take_add_one, List.getElem?_eq_getElem hi]; rfl
      have ht : (bs.take i).length + 1 ≤ SM := by simp; omega
      simp only [tl_sparse_copiedD_l0]
      rw [run_iteT (by simp; omega), run_req (inb hi)]
      simp only [getD_int hi]
      rw [run_bind hd, run_req (by simp), run_req (by simp), run_req (rmM (by simpa using ht) (by omega)), run_same, run_ret, hw, e]
    · simp only [tl_sparse_copiedD_l0]
      rw [run_iteF (by simp), run_same, run_ret, List.take_length]
  simp only [f_sparse_copiedD, t_sparse_copiedD]
  rw [run_bind hl, run_same, run_ret]

/-- A block's bytes, the last ones nought. -/
def cutD (d : List UInt8) (m : Nat) : List UInt8 := d.take m ++ List.replicate (16 - m) 0
def cutB (n : Int) : List Blk → List Blk
  | [] => []
  | b :: r => if n ≤ b.pos * 16 then [] else (if n - b.pos * 16 < 16 then ⟨b.pos, cutD b.data (n - b.pos * 16).toNat⟩ else b) :: cutB n r

structure FilP (l : List Blk) : Prop where
  s : FilS l
  pos : ∀ b ∈ l, 0 ≤ b.pos ∧ b.pos ≤ 1000000

theorem e_begins {b : Blk} (h : 0 ≤ b.pos ∧ b.pos ≤ 1000000) : f_sparse_begins b = some (b.pos * 16) := by
  simp only [f_sparse_begins, t_sparse_begins]
  rw [run_ret, wr (by omega) (by omega)]

theorem e_sparse_Cut {f : Fil} (h : FilP f.blocks) (hl : f.blocks.length ≤ SM) {n : Int} (h0 : 0 ≤ n) (h1 : n ≤ 100000000) : f_sparse_Cut f n = some ⟨n, cutB n f.blocks⟩ := by
  have hc := e_sparse_copiedD (h.s.sm hl)
  obtain ⟨sz, xs⟩ := f
  simp only at h hl hc
  have hL : L_sparse_Cut_l0 (n, ⟨0, []⟩, (n, [], 0), (xs, 0), (xs.length : Int), 0) = some (⟨0, []⟩, (n, cutB n xs, 0)) := by
    have key := loop_inv (t := fun q : (Int × (Fil × ((Int × (List Blk × Nat)) × ((List Blk × Nat) × (Int × Int))))) => tl_sparse_Cut_l0 q.1 q.2.1 q.2.2.1 q.2.2.2.1 q.2.2.2.2.1 q.2.2.2.2.2)
      (fun i p => ∃ q out, q ≤ i ∧ p = (n, ⟨0, []⟩, (n, out, 0), (xs, q), (xs.length : Int), (i : Int)) ∧ out ++ cutB n (xs.drop i) = cutB n xs ∧ out.length = i) (fun r => r = (⟨0, []⟩, (n, cutB n xs, 0))) xs.length (fun i p hi hp => ?_) (fun p hp => ?_) (p := (n, ⟨0, []⟩, (n, [], 0), (xs, 0), (xs.length : Int), 0)) ⟨0, [], Nat.le_refl _, rfl, rfl, rfl⟩
    · obtain ⟨r, k1, k2⟩ := key
      exact k1.trans (by rw [k2])
    · obtain ⟨q, out, hq, rfl, ho, hol⟩ := hp
      have hw := wrS (i := i) (by unfold SM at hl; omega)
      have hb := h.pos _ (List.getElem_mem hi)
      have hd := h.s.len _ (List.getElem_mem hi)
      have hbg := e_begins hb
      have hdr : xs.drop i = xs[i] :: xs.drop (i + 1) := List.drop_eq_getElem_cons hi
      rw [hdr, cutB] at ho
      simp only [tl_sparse_Cut_l0]
      rw [run_iteT (by simp; omega), run_req (inb hi)]
      have hgd : xs.getD i ⟨0, []⟩ = xs[i] := by simp [hi]
      simp only [Int.toNat_natCast, hgd]
      rw [run_req ⟨hq, hi⟩, run_req (by simp), run_bind hbg]
      by_cases c : n ≤ xs[i].pos * 16
      · right
        rw [if_pos c, List.append_nil] at ho
        refine ⟨_, by rw [run_iteT (by simpa using c), run_same, run_ret], ?_⟩
        rw [ho]
      · left
        rw [if_neg c] at ho
        have hwn : IntKind.i64.wrap (n - xs[i].pos * 16) = n - xs[i].pos * 16 := wr (by omega) (by omega)
        rw [run_iteF (by simpa using c), run_req (by simp), run_bind hbg]
        simp only [hwn]
        by_cases c2 : n - xs[i].pos * 16 < 16
        · rw [if_pos c2] at ho
          generalize hm : (n - xs[i].pos * 16).toNat = m at *
          have hm16 : m < 16 := by omega
          have hz : List.take (Int.toNat (16 : Int)) (List.drop 0 (List.replicate (Int.toNat (16 : Int)) (0 : UInt8))) = List.replicate 16 0 := rfl
          have hcd : List.take m xs[i].data ++ List.take (min (List.replicate 16 (0 : UInt8)).length (xs[i].data.length - m)) (List.replicate 16 0) ++ List.drop (m + min (List.replicate 16 (0 : UInt8)).length (xs[i].data.length - m)) xs[i].data = cutD xs[i].data m := by
            unfold cutD
            rw [hd, List.length_replicate, show min 16 (16 - m) = 16 - m by omega, List.take_replicate, show min (16 - m) 16 = 16 - m by omega, List.drop_eq_nil_of_le (by omega), List.append_nil]
          refine ⟨(n, ⟨0, []⟩, (n, out ++ [⟨xs[i].pos, cutD xs[i].data m⟩], 0), (xs, Nat.succ i), (xs.length : Int), ((i + 1 : Nat) : Int)), ?_, Nat.succ i, _, by omega, rfl, ?_, by simp; omega⟩
          · rw [run_iteT (by simpa using c2), run_req ⟨by omega, by omega, by omega, Int.le_refl _⟩, run_req ⟨by decide, trivial, by unfold roomP; decide⟩, run_req (by simp), run_req (by omega), run_req (by simp)]
            rw [hz] at *
            simp only [hcd]
            rw [run_req (by rw [hd]; unfold cutD; simp; omega), run_req (rmM (by simp; omega) (by omega)), run_same, run_same, run_ret, hw]
          · rw [List.append_assoc]; exact ho
        · rw [if_neg c2] at ho
          refine ⟨(n, ⟨0, []⟩, (n, out ++ [xs[i]], 0), (xs, Nat.succ i), (xs.length : Int), ((i + 1 : Nat) : Int)), ?_, Nat.succ i, _, by omega, rfl, ?_, by simp; omega⟩
          · rw [run_iteF (by simpa using c2), run_req (by simp), run_same, run_req (rmM (by simp; omega) (by omega)), run_same, run_same, run_ret, hw]
          · rw [List.append_assoc]; exact ho
    · obtain ⟨q, out, hq, rfl, ho, hol⟩ := hp
      simp only [tl_sparse_Cut_l0]
      refine ⟨_, by rw [run_iteF (by simp), run_same, run_ret], ?_⟩
      rw [List.drop_length, cutB, List.append_nil] at ho
      rw [ho]
  simp only [f_sparse_Cut, t_sparse_Cut]
  rw [run_bind hc, run_same, run_bind hL, run_req (by simp), run_ret]

end Go.Proofs.Ytmkmjjodiicmlaa.VS
