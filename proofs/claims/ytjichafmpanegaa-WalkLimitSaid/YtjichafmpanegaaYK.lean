/- Calls of veneerref8.Run that were run. Conditions: none. -/
import Derived.Test.YtjichafmpanegaaVYH
import Derived.KernelRfl
namespace Go.Proofs.Ytjichafmpanegaa.VS
set_option maxRecDepth 100000
set_option maxHeartbeats 0
abbrev nodW (i k m : Int) (l : List Nam) : Nod := Nod.mk i k m 1 (Fil.mk 0 []) [] l
abbrev opW (k : Int) (p : Str) : Opn := Opn.mk k p [] 0 0 0 []
def runD0 : Dsk := ⟨9, 9, 2, [nodW 1 2 493 []]⟩
def runS1 : List Opn := [opW 2 [47, 97], opW 2 [47, 97, 47, 98]]
def runS2 : List Opn := [opW 1 [47, 97]]
def runS3 : List Opn := [opW 2 [47, 97], opW 1 [47, 97, 47, 98]]
def runS4 : List Opn := [opW 2 [47, 97], opW 2 [47, 97, 47, 98], opW 1 [47, 46, 119, 104, 46, 97]]
def runS5 : List Opn := [opW 2 [47, 97], opW 2 [47, 97, 47, 98], opW 1 [47, 97, 47, 46, 119, 104, 46, 98]]
def runR1 : Dsk := ⟨9, 9, 4, [nodW 1 2 493 [⟨[97], 2⟩], nodW 2 2 0 [⟨[98], 3⟩], nodW 3 2 0 []]⟩
def runR2 : Dsk := ⟨9, 9, 3, [nodW 1 2 493 [⟨[97], 2⟩], nodW 2 1 0 []]⟩
def runR3 : Dsk := ⟨9, 9, 4, [nodW 1 2 493 [⟨[97], 2⟩], nodW 2 2 0 [⟨[98], 3⟩], nodW 3 1 0 []]⟩
def runR4 : Dsk := ⟨9, 9, 5, [nodW 1 2 493 [⟨[46, 119, 104, 46, 97], 4⟩, ⟨[97], 2⟩], nodW 2 2 0 [⟨[98], 3⟩], nodW 3 2 0 [], nodW 4 1 0 []]⟩
def runR5 : Dsk := ⟨9, 9, 5, [nodW 1 2 493 [⟨[97], 2⟩], nodW 2 2 0 [⟨[46, 119, 104, 46, 98], 4⟩, ⟨[98], 3⟩], nodW 3 2 0 [], nodW 4 1 0 []]⟩
def bare_r8_Run : Cfg := { prim := fun _ => none, keep := fun _ => false, exact := fun _ => false, share := fun _ => false }
theorem ran1 : runD tabs bare_r8_Run 60 5 (.cons (.S .dsk) (.L .opn)) (.S .dsk) (runD0, runS1) = some runR1 := by kernel_rfl
theorem ran2 : runD tabs bare_r8_Run 60 5 (.cons (.S .dsk) (.L .opn)) (.S .dsk) (runD0, runS2) = some runR2 := by kernel_rfl
theorem ran3 : runD tabs bare_r8_Run 60 5 (.cons (.S .dsk) (.L .opn)) (.S .dsk) (runD0, runS3) = some runR3 := by kernel_rfl
theorem ran4 : runD tabs bare_r8_Run 60 5 (.cons (.S .dsk) (.L .opn)) (.S .dsk) (runD0, runS4) = some runR4 := by kernel_rfl
theorem ran5 : runD tabs bare_r8_Run 60 5 (.cons (.S .dsk) (.L .opn)) (.S .dsk) (runD0, runS5) = some runR5 := by kernel_rfl
open Classical in
noncomputable def f_r8_Run (d : Dsk) (l : List Opn) : Option Dsk :=
  if d = runD0 ∧ l = runS1 then some runR1 else if d = runD0 ∧ l = runS2 then some runR2 else if d = runD0 ∧ l = runS3 then some runR3 else if d = runD0 ∧ l = runS4 then some runR4 else if d = runD0 ∧ l = runS5 then some runR5 else none
noncomputable def K_r8_Run : List AV → Option Con := conT (.cons (.S .dsk) (.L .opn)) (.dt (.S .dsk)) fun x => f_r8_Run x.1 x.2
theorem c_r8_Run [Syms] : ConOne Try.prog 5 K_r8_Run :=
  con_ranD (a := .cons (.S .dsk) (.L .opn)) (d := .S .dsk) tyokG fnokG Try.checked.mixed (prim_none (fun _ => rfl) (fun _ => rfl)) (fun _ => rfl) fun x y h => by
    obtain ⟨d, l⟩ := x
    simp only [f_r8_Run] at h
    split at h
    · rename_i e; obtain ⟨rfl, rfl⟩ := e; cases h; exact ran1
    · split at h
      · rename_i e; obtain ⟨rfl, rfl⟩ := e; cases h; exact ran2
      · split at h
        · rename_i e; obtain ⟨rfl, rfl⟩ := e; cases h; exact ran3
        · split at h
          · rename_i e; obtain ⟨rfl, rfl⟩ := e; cases h; exact ran4
          · split at h
            · rename_i e; obtain ⟨rfl, rfl⟩ := e; cases h; exact ran5
            · cases h
end Go.Proofs.Ytjichafmpanegaa.VS
