/- Chapter 12: WalkLimit, case by case. Conditions: none. -/
import Derived.Test.YtjichafmpanegaaPL4
namespace Go.Proofs.Ytjichafmpanegaa.VS
set_option maxRecDepth 100000
set_option linter.unusedVariables false
set_option linter.unusedSimpArgs false

theorem at_wl {ways : List Int} {at_ : Nat} {deep file : Bool} {n : Nat} (h : at_ < n) (j : Int) : dkW (wlW ways at_ deep file n) ⟨(at_ : Int), j⟩ = dkX deep file := by rw [dk_wl _ _ _ _ h, dkL, if_pos rfl]

theorem len_wl (ways : List Int) (at_ : Nat) (deep file : Bool) (n : Nat) : ((wlW ways at_ deep file n).disks.length : Int) = (n : Int) := by simp [wlW]

theorem find_file {ways : List Int} {at_ : Nat} {deep : Bool} {n : Nat} (h0 : 0 < at_) (hat : at_ < n) : findW (wlW ways at_ deep true n) [[97], [98]] = (dirsN at_ 3, (at_ : Int) - 1, 0) := by
  cases deep with
  | false =>
    have h1 := look_file (w := wlW ways at_ false true n) (name := [97]) (i := 1) (j := 2) (ino := 2) hat h0 (fun k hk => base_a (by omega) (by omega)) (by unfold ndW; rw [at_wl hat]; rfl) (by unfold ndW; rw [at_wl hat]; exact (show ¬ (getN runR2.nodes 2).1.kind = 2 by decide))
    have h2 := look_all (w := wlW ways at_ false true n) (name := [98]) (i := 2) (j := 3) (n := at_) (fun k hk => base_b (by omega) (by omega))
    rw [find_of (by omega) h0 h1 h2 h0 h0, len_wl]
    congr 2
    repeat (first | omega | split)
  | true =>
    have h1 := look_all (w := wlW ways at_ true true n) (name := [97]) (i := 1) (j := 2) (n := n) (fun k hk => by
      by_cases e : k = at_
      · subst e; exact pass_a hk (d := runR3) (by rw [dkL, if_pos rfl]; rfl) rfl rfl rfl rfl
      · exact base_a hk e)
    have h2 := look_file (w := wlW ways at_ true true n) (name := [98]) (i := 2) (j := 3) (ino := 3) hat h0 (fun k hk => base_b (by omega) (by omega)) (by unfold ndW; rw [at_wl hat]; rfl) (by unfold ndW; rw [at_wl hat]; exact (show ¬ (getN runR3.nodes 3).1.kind = 2 by decide))
    rw [find_of (by omega) h0 h1 h2 (by omega) h0, len_wl]
    congr 2
    repeat (first | omega | split)

/-- A sign: heeded, or not. -/
theorem find_sign {ways : List Int} {at_ : Nat} {deep : Bool} {n : Nat} (h0 : 0 < at_) (hat : at_ < n) : findW (wlW ways at_ deep false n) [[97], [98]] = if heedsC ⟨ways, 1⟩ (at_ : Int) = true then (dirsN (at_ + 1) 3, (at_ : Int), 0) else (dirsN n 3, (n : Int) - 1, 0) := by
  have hh : ∀ (j : Int) (sg : Str) (deep : Bool), hasW (wlW ways at_ deep false n) ⟨(at_ : Int), j⟩ sg = ((getS (getN (dkX deep false).nodes j).1.names sg).2 && ((getN (dkX deep false).nodes j).1.kind == 2 && heedsC ⟨ways, 1⟩ (at_ : Int))) := fun j sg deep => by
    unfold hasW ndW; rw [at_wl hat]; rfl
  have hk : ∀ (j : Int) (deep : Bool), (ndW (wlW ways at_ deep false n) ⟨(at_ : Int), j⟩) = (getN (dkX deep false).nodes j).1 := fun j deep => by unfold ndW; rw [at_wl hat]
  generalize heedsC ⟨ways, 1⟩ (at_ : Int) = hd at *
  cases deep with
  | false =>
    have pb : ∀ k, k ≤ at_ → Pass (wlW ways at_ false false n) [98] ⟨(k : Int), 2⟩ 3 := fun k hk' => by
      by_cases e : k = at_
      · subst e; exact pass_b hat (d := runR4) (by rw [dkL, if_pos rfl]; rfl) rfl rfl rfl rfl
      · exact base_b (by omega) e
    cases hd with
    | true =>
      have h1 := look_sign (w := wlW ways at_ false false n) (name := [97]) (i := 1) (j := 2) hat (fun k hk => base_a (by omega) (by omega)) (by rw [hk]; rfl) (by rw [hk]; rfl) (by rw [hh]; rfl) (by rw [hh]; rfl)
      have h2 := look_all (w := wlW ways at_ false false n) (name := [98]) (i := 2) (j := 3) (n := at_ + 1) (fun k hk => pb k (by omega))
      rw [find_of (by omega) h0 h1 h2 (by omega) (by omega), len_wl, if_pos rfl]
      congr 2
      repeat (first | omega | split)
    | false =>
      have h1 := look_all (w := wlW ways at_ false false n) (name := [97]) (i := 1) (j := 2) (n := n) (fun k hk' => by
        by_cases e : k = at_
        · subst e; exact ⟨by rw [hk]; rfl, by rw [hk]; rfl, by rw [hh]; rfl, by rw [hh]; rfl⟩
        · exact base_a hk' e)
      have h2 := look_all (w := wlW ways at_ false false n) (name := [98]) (i := 2) (j := 3) (n := n) (fun k hk' => by
        by_cases e : k = at_
        · exact pb k (by omega)
        · exact base_b hk' e)
      rw [find_of (by omega) h0 h1 h2 (by omega) (by omega), len_wl, if_neg Bool.false_ne_true]
      congr 2
      repeat (first | omega | split)
  | true =>
    have pa : ∀ k, k < n → Pass (wlW ways at_ true false n) [97] ⟨(k : Int), 1⟩ 2 := fun k hk' => by
      by_cases e : k = at_
      · subst e; exact pass_a hat (d := runR5) (by rw [dkL, if_pos rfl]; rfl) rfl rfl rfl rfl
      · exact base_a hk' e
    have h1 := look_all (w := wlW ways at_ true false n) (name := [97]) (i := 1) (j := 2) (n := n) pa
    cases hd with
    | true =>
      have h2 := look_sign (w := wlW ways at_ true false n) (name := [98]) (i := 2) (j := 3) hat (fun k hk => base_b (by omega) (by omega)) (by rw [hk]; rfl) (by rw [hk]; rfl) (by rw [hh]; rfl) (by rw [hh]; rfl)
      rw [find_of (by omega) h0 h1 h2 (by omega) (by omega), len_wl, if_pos rfl]
      congr 2
      repeat (first | omega | split)
    | false =>
      have h2 := look_all (w := wlW ways at_ true false n) (name := [98]) (i := 2) (j := 3) (n := n) (fun k hk' => by
        by_cases e : k = at_
        · subst e; exact ⟨by rw [hk]; rfl, by rw [hk]; rfl, by rw [hh]; rfl, by rw [hh]; rfl⟩
        · exact base_b hk' e)
      rw [find_of (by omega) h0 h1 h2 (by omega) (by omega), len_wl, if_neg Bool.false_ne_true]
      congr 2
      repeat (first | omega | split)

end Go.Proofs.Ytjichafmpanegaa.VS
