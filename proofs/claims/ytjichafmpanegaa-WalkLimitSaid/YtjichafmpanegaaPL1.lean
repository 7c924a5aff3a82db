/- Chapter 12: where one may add, disk by disk. Conditions: none. -/
import Derived.Test.YtjichafmpanegaaPM3
namespace Go.Proofs.Ytjichafmpanegaa.VS
set_option maxRecDepth 100000
set_option linter.unusedVariables false
set_option linter.unusedSimpArgs false

/-- A directory that is gone through. -/
structure Pass (w : Wld) (name : Str) (d : Spt) (ino : Int) : Prop where
  nm : getS (ndW w d).names name = (ino, true)
  kind : (ndW w ⟨d.branch, ino⟩).kind = 2
  cut : hasW w ⟨d.branch, ino⟩ opq = false
  hide : hasW w d (whiteS name) = false

theorem look_pass {w : Wld} {name : Str} {ino : Int} : ∀ {pre acc rest : List Spt}, (∀ d ∈ pre, Pass w name d ino) → lookW w name acc (pre ++ rest) = lookW w name (acc ++ pre.map fun d => ⟨d.branch, ino⟩) rest
  | [], acc, rest, _ => by simp
  | d :: r, acc, rest, h => by
    have hd := h d List.mem_cons_self
    have hr := fun x hx => h x (List.mem_cons_of_mem _ hx)
    rw [List.cons_append, lookW, hd.nm]
    dsimp only
    rw [if_pos hd.kind, hd.cut, if_neg Bool.false_ne_true, hd.hide, if_neg Bool.false_ne_true, look_pass hr]
    simp

/-- The directories of the first branches. -/
def dirsN (n : Nat) (ino : Int) : List Spt := (List.range n).map fun (i : Nat) => ⟨(i : Int), ino⟩
theorem dirsN_len (n : Nat) (ino : Int) : (dirsN n ino).length = n := by simp [dirsN]
theorem dirsN_split {n at_ : Nat} (h : at_ < n) (ino : Int) : dirsN n ino = dirsN at_ ino ++ ⟨(at_ : Int), ino⟩ :: ((List.range' (at_ + 1) (n - at_ - 1)).map fun (i : Nat) => ⟨(i : Int), ino⟩) := by
  unfold dirsN
  have : List.range n = List.range at_ ++ at_ :: List.range' (at_ + 1) (n - at_ - 1) := by
    rw [List.range_eq_range', List.range_eq_range', ← List.range'_succ]
    have := List.range'_append (s := 0) (m := at_) (n := n - at_ - 1 + 1) (step := 1)
    simp at this
    rw [this]; congr 1; omega
  rw [this, List.map_append, List.map_cons]
theorem dirsN_map (n : Nat) (i j : Int) : (dirsN n i).map (fun d => (⟨d.branch, j⟩ : Spt)) = dirsN n j := by simp [dirsN]

/-- All are gone through. -/
theorem look_all {w : Wld} {name : Str} {i j : Int} {n : Nat} (h : ∀ k < n, Pass w name ⟨(k : Int), i⟩ j) : lookW w name [] (dirsN n i) = (dirsN n j, (w.disks.length : Int) - 1) := by
  have := look_pass (w := w) (name := name) (ino := j) (pre := dirsN n i) (acc := []) (rest := []) fun d hd => by
    unfold dirsN at hd
    obtain ⟨k, hk, rfl⟩ := List.mem_map.1 hd
    exact h k (List.mem_range.1 hk)
  rw [List.append_nil] at this
  rw [this, dirsN_map]; rfl

/-- Those before one are gone through. -/
theorem look_to {w : Wld} {name : Str} {i j : Int} {n at_ : Nat} (hn : at_ < n) (h : ∀ k < at_, Pass w name ⟨(k : Int), i⟩ j) : lookW w name [] (dirsN n i) = lookW w name (dirsN at_ j) (⟨(at_ : Int), i⟩ :: ((List.range' (at_ + 1) (n - at_ - 1)).map fun (k : Nat) => ⟨(k : Int), i⟩)) := by
  have := look_pass (w := w) (name := name) (ino := j) (pre := dirsN at_ i) (acc := []) (rest := ⟨(at_ : Int), i⟩ :: ((List.range' (at_ + 1) (n - at_ - 1)).map fun (k : Nat) => ⟨(k : Int), i⟩)) fun d hd => by
    unfold dirsN at hd
    obtain ⟨k, hk, rfl⟩ := List.mem_map.1 hd
    exact h k (List.mem_range.1 hk)
  rw [dirsN_split hn, this, dirsN_map]; rfl

/-- A file stops it. -/
theorem look_file {w : Wld} {name : Str} {i j : Int} {n at_ : Nat} (hn : at_ < n) (h0 : 0 < at_) (h : ∀ k < at_, Pass w name ⟨(k : Int), i⟩ j) {ino : Int} (h1 : getS (ndW w ⟨(at_ : Int), i⟩).names name = (ino, true)) (h2 : ¬ (ndW w ⟨(at_ : Int), ino⟩).kind = 2) :
    lookW w name [] (dirsN n i) = (dirsN at_ j, (at_ : Int) - 1) := by
  rw [look_to hn h, lookW, h1]
  dsimp only
  rw [if_neg h2, if_neg]
  intro e
  have := dirsN_len at_ j
  rw [e] at this
  simp at this; omega

/-- A sign stops it, behind the directory that lies there. -/
theorem look_sign {w : Wld} {name : Str} {i j : Int} {n at_ : Nat} (hn : at_ < n) (h : ∀ k < at_, Pass w name ⟨(k : Int), i⟩ j) (h1 : getS (ndW w ⟨(at_ : Int), i⟩).names name = (j, true)) (h2 : (ndW w ⟨(at_ : Int), j⟩).kind = 2) (h3 : hasW w ⟨(at_ : Int), j⟩ opq = false) (h4 : hasW w ⟨(at_ : Int), i⟩ (whiteS name) = true) :
    lookW w name [] (dirsN n i) = (dirsN (at_ + 1) j, (at_ : Int)) := by
  rw [look_to hn h, lookW, h1]
  dsimp only
  rw [if_pos h2, h3, if_neg Bool.false_ne_true, h4, if_pos rfl]
  congr 1
  simp [dirsN, List.range_succ]

end Go.Proofs.Ytjichafmpanegaa.VS
