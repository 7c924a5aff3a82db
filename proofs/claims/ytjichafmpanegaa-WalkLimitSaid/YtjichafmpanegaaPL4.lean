/- Chapter 12: WalkLimit. Conditions: none. -/
import Derived.Test.YtjichafmpanegaaPL3
namespace Go.Proofs.Ytjichafmpanegaa.VS
set_option maxRecDepth 100000
set_option linter.unusedVariables false
set_option linter.unusedSimpArgs false

theorem pass_of {w : Wld} {name : Str} {b i ino : Int} {d : Dsk} (h1 : dkW w ⟨b, i⟩ = d) (h2 : getS (getN d.nodes i).1.names name = (ino, true)) (h3 : (getN d.nodes ino).1.kind = 2) (h4 : (getS (getN d.nodes ino).1.names opq).2 = false) (h5 : (getS (getN d.nodes i).1.names (whiteS name)).2 = false) : Pass w name ⟨b, i⟩ ino := by
  have hd : ∀ j, dkW w ⟨b, j⟩ = d := fun j => h1
  refine ⟨?_, ?_, ?_, ?_⟩
  · unfold ndW; rw [h1]; exact h2
  · unfold ndW; rw [hd]; exact h3
  · unfold hasW ndW; rw [hd]; dsimp only; rw [h4]; rfl
  · unfold hasW ndW; rw [h1]; dsimp only; rw [h5]; rfl

theorem pass_a {ways : List Int} {at_ : Nat} {deep file : Bool} {n k : Nat} (hk : k < n) {d : Dsk} (hd : dkL at_ deep file k = d) (h2 : getS (getN d.nodes 1).1.names [97] = (2, true)) (h3 : (getN d.nodes 2).1.kind = 2) (h4 : (getS (getN d.nodes 2).1.names opq).2 = false) (h5 : (getS (getN d.nodes 1).1.names (whiteS [97])).2 = false) : Pass (wlW ways at_ deep file n) [97] ⟨(k : Int), 1⟩ 2 :=
  pass_of ((dk_wl ways at_ deep file hk 1).trans hd) h2 h3 h4 h5
theorem pass_b {ways : List Int} {at_ : Nat} {deep file : Bool} {n k : Nat} (hk : k < n) {d : Dsk} (hd : dkL at_ deep file k = d) (h2 : getS (getN d.nodes 2).1.names [98] = (3, true)) (h3 : (getN d.nodes 3).1.kind = 2) (h4 : (getS (getN d.nodes 3).1.names opq).2 = false) (h5 : (getS (getN d.nodes 2).1.names (whiteS [98])).2 = false) : Pass (wlW ways at_ deep file n) [98] ⟨(k : Int), 2⟩ 3 :=
  pass_of ((dk_wl ways at_ deep file hk 2).trans hd) h2 h3 h4 h5

theorem base_a {ways : List Int} {at_ : Nat} {deep file : Bool} {n k : Nat} (hk : k < n) (hne : ¬ k = at_) : Pass (wlW ways at_ deep file n) [97] ⟨(k : Int), 1⟩ 2 := pass_a hk (d := runR1) (by rw [dkL, if_neg hne]) rfl rfl rfl rfl
theorem base_b {ways : List Int} {at_ : Nat} {deep file : Bool} {n k : Nat} (hk : k < n) (hne : ¬ k = at_) : Pass (wlW ways at_ deep file n) [98] ⟨(k : Int), 2⟩ 3 := pass_b hk (d := runR1) (by rw [dkL, if_neg hne]) rfl rfl rfl rfl

theorem dirsN_head {n : Nat} (h : 0 < n) (i : Int) : (dirsN n i).getD 0 GT.spt.nought = ⟨0, i⟩ := by
  have : 0 < (dirsN n i).length := by rw [dirsN_len]; exact h
  rw [getD_at this]
  simp [dirsN]

theorem roots_wl (ways : List Int) (at_ : Nat) (deep file : Bool) (n : Nat) : rootsW (wlW ways at_ deep file n) = dirsN n 1 := by simp [rootsW, dirsN, wlW]

theorem find_of {ways : List Int} {at_ : Nat} {deep file : Bool} {n m1 m2 : Nat} {l1 l2 : Int} (hn : 0 < n) (h0 : 0 < at_) (h1 : lookW (wlW ways at_ deep file n) [97] [] (dirsN n 1) = (dirsN m1 2, l1)) (h2 : lookW (wlW ways at_ deep file n) [98] [] (dirsN m1 2) = (dirsN m2 3, l2)) (hm1 : 0 < m1) (hm2 : 0 < m2) :
    findW (wlW ways at_ deep file n) [[97], [98]] = (dirsN m2 3, (if l2 < (if l1 < (n : Int) - 1 then l1 else (n : Int) - 1) then l2 else (if l1 < (n : Int) - 1 then l1 else (n : Int) - 1)), 0) := by
  have hlen : ((wlW ways at_ deep file n).disks.length : Int) = (n : Int) := by simp [wlW]
  have k1 : (ndW (wlW ways at_ deep file n) ⟨0, 1⟩).kind = 2 := by
    have := dk_wl ways at_ deep file hn 1
    unfold ndW
    rw [show (⟨0, 1⟩ : Spt) = ⟨((0 : Nat) : Int), 1⟩ from rfl, this, dkL, if_neg (by omega)]; rfl
  have k2 : (ndW (wlW ways at_ deep file n) ⟨0, 2⟩).kind = 2 := by
    have := dk_wl ways at_ deep file hn 2
    unfold ndW
    rw [show (⟨0, 2⟩ : Spt) = ⟨((0 : Nat) : Int), 2⟩ from rfl, this, dkL, if_neg (by omega)]; rfl
  have ne : ∀ {m : Nat} {i : Int}, 0 < m → ¬ dirsN m i = [] := fun hm e => by have := dirsN_len _ _ ▸ congrArg List.length e; simp at this; omega
  unfold findW
  rw [roots_wl, hlen, goW, dirsN_head hn, if_pos k1, h1]
  dsimp only
  rw [if_neg (ne hm1), goW, dirsN_head hm1, if_pos k2, h2]
  dsimp only
  rw [if_neg (ne hm2)]
  rfl

end Go.Proofs.Ytjichafmpanegaa.VS
