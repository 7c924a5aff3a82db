/- Chapter 12: the world of WalkLimit. Conditions: none. -/
import Derived.Test.YtjichafmpanegaaPL2
namespace Go.Proofs.Ytjichafmpanegaa.VS
set_option maxRecDepth 100000
set_option linter.unusedVariables false
set_option linter.unusedSimpArgs false

def wlW (ways : List Int) (at_ : Nat) (deep file : Bool) (i : Nat) : Wld := ⟨⟨ways, 1⟩, (List.range i).map (dkL at_ deep file), ⟨0, [], [], 0⟩⟩

theorem e_limit_loop (ways : List Int) (at_ : Nat) (deep file : Bool) (hl : ways.length ≤ 8) (hat : at_ < ways.length) :
    ∃ r, L_law12_WalkLimit_l0 (ways, (at_ : Int), deep, file, wlW ways at_ deep file 0, 0) = some r ∧ (r = .inl true ∨ (r = .inr (ways, (at_ : Int), file, wlW ways at_ deep file ways.length) ∧ ∀ k (hk : k < ways.length), 1 ≤ ways[k] ∧ ways[k] ≤ 3)) := by
  refine loop_inv (fun i p => p = (ways, (at_ : Int), deep, file, wlW ways at_ deep file i, (i : Int)) ∧ ∀ k (hk : k < ways.length), k < i → 1 ≤ ways[k] ∧ ways[k] ≤ 3)
    (fun r : Bool ⊕ (List Int × Int × Bool × Wld) => r = .inl true ∨ (r = .inr (ways, (at_ : Int), file, wlW ways at_ deep file ways.length) ∧ ∀ k (hk : k < ways.length), 1 ≤ ways[k] ∧ ways[k] ≤ 3)) ways.length (fun i p hi hp => ?_) (fun p hp => ?_) ⟨rfl, fun k hk h => by omega⟩
  · obtain ⟨rfl, hp⟩ := hp
    by_cases h1 : ways[i] < 1
    · right
      refine ⟨_, ?_, .inl rfl⟩
      simp only [tl_law12_WalkLimit_l0]
      rw [run_iteT (by simp; omega), run_req (inb hi)]
      simp only [getD_int hi]
      rw [run_iteT (by simpa using h1), run_ret]
    · by_cases h3 : ways[i] > 3
      · right
        refine ⟨_, ?_, .inl rfl⟩
        simp only [tl_law12_WalkLimit_l0]
        rw [run_iteT (by simp; omega), run_req (inb hi)]
        simp only [getD_int hi]
        rw [run_iteF (by simpa using h1), run_req (inb hi), run_iteT (by simpa using h3), run_ret]
      · left
        have hall : ∀ k (hk : k < ways.length), k < i + 1 → 1 ≤ ways[k] ∧ ways[k] ≤ 3 := fun k hk h => by
          by_cases e : k = i
          · subst e; omega
          · exact hp k hk (by omega)
        have hds : (wlW ways at_ deep file i).disks.length ≤ 8 := by simp [wlW]; omega
        have hnext : wlW ways at_ deep file (i + 1) = ⟨(wlW ways at_ deep file i).conf, (wlW ways at_ deep file i).disks ++ [dkL at_ deep file i], (wlW ways at_ deep file i).table⟩ := by
          simp [wlW, List.range_succ]
        by_cases e : i = at_
        · subst e
          refine ⟨_, round_at ways deep file _ i hi hl h1 h3 hds, ?_, hall⟩
          rw [hnext, dkL, if_pos rfl]
        · refine ⟨_, round_base ways at_ deep file _ i hi hl h1 h3 e hds, ?_, hall⟩
          rw [hnext, dkL, if_neg e]
  · obtain ⟨rfl, hp⟩ := hp
    refine ⟨_, ?_, .inr ⟨rfl, fun k hk => hp k hk hk⟩⟩
    simp only [tl_law12_WalkLimit_l0]
    rw [run_iteF (by simp), run_same, run_ret]

/-! ### Its disks -/

theorem gdk_of {d : Dsk} (h1 : d.nodes.length ≤ 10) (h2 : ∀ n ∈ d.nodes, n.names.length ≤ 10 ∧ n.file = ⟨0, []⟩) (h3 : SortI d.nodes) (h4 : ∀ n ∈ d.nodes, SortN n.names) : GDk d := by
  refine ⟨⟨by unfold SM; omega, fun n hn => ⟨by have := (h2 n hn).1; unfold SM; omega, by rw [(h2 n hn).2]; simp, by rw [(h2 n hn).2]; simp⟩⟩, h3, fun ino => ?_⟩
  unfold getN
  split
  · rename_i n hn; exact h4 n (List.mem_of_find?_eq_some hn)
  · intro i j hij hj; simp at hj

theorem sortI_p {l : List Nod} (h : l.Pairwise fun a b => a.ino < b.ino) : SortI l := fun i j hij hj => List.pairwise_iff_getElem.1 h i j (by omega) hj hij
theorem sortN_p {l : List Nam} (h : l.Pairwise fun a b => bytesLt a.name b.name = true) : SortN l := fun i j hij hj => List.pairwise_iff_getElem.1 h i j (by omega) hj hij

theorem gdk1 : GDk runR1 := gdk_of (by decide) (by decide) (sortI_p (by decide)) fun n hn => sortN_p (by revert n; decide)
theorem gdk2 : GDk runR2 := gdk_of (by decide) (by decide) (sortI_p (by decide)) fun n hn => sortN_p (by revert n; decide)
theorem gdk3 : GDk runR3 := gdk_of (by decide) (by decide) (sortI_p (by decide)) fun n hn => sortN_p (by revert n; decide)
theorem gdk4 : GDk runR4 := gdk_of (by decide) (by decide) (sortI_p (by decide)) fun n hn => sortN_p (by revert n; decide)
theorem gdk5 : GDk runR5 := gdk_of (by decide) (by decide) (sortI_p (by decide)) fun n hn => sortN_p (by revert n; decide)
theorem gdkL (at_ : Nat) (deep file : Bool) (i : Nat) : GDk (dkL at_ deep file i) := by
  unfold dkL dkX
  split
  · cases deep <;> cases file
    · exact gdk4
    · exact gdk2
    · exact gdk5
    · exact gdk3
  · exact gdk1

theorem gw_wl (ways : List Int) (at_ : Nat) (deep file : Bool) {n : Nat} (hn : n ≤ 8) : GW (wlW ways at_ deep file n) := ⟨by simp [wlW]; omega, fun d hd => by
  obtain ⟨i, _, rfl⟩ := List.mem_map.1 hd
  exact gdkL at_ deep file i⟩

theorem dk_wl (ways : List Int) (at_ : Nat) (deep file : Bool) {n k : Nat} (hk : k < n) (j : Int) : dkW (wlW ways at_ deep file n) ⟨(k : Int), j⟩ = dkL at_ deep file k := by
  unfold dkW wlW
  simp only [Int.toNat_natCast]
  rw [getD_at (by simpa using hk)]
  simp

end Go.Proofs.Ytjichafmpanegaa.VS
