/- Chapter 23: what is kept, read. Conditions: none. -/
import Derived.Test.YthbgioembchnkaaPR1
import Derived.Test.YthbgioembchnkaaPTF
import Derived.Test.YthbgioembchnkaaPW
namespace Go.Proofs.Ythbgioembchnkaa.VS
set_option maxRecDepth 100000
set_option linter.unusedVariables false
set_option linter.unusedSimpArgs false

theorem e_heavy23 {d : Dsk} (hd : SmD d) : ∃ b, f_law23_heavy [d] = some b := by
  have hin : ∀ n : Int, ∃ r, L_law23_heavy_l0_0 ([d], n, 0, 0) = some r ∧ ∃ m : Int, r = ([d], m, 0) := by
    intro n
    refine loop_inv (fun i p => ∃ m : Int, p = ([d], m, 0, (i : Int))) (fun r => ∃ m : Int, r = ([d], m, 0)) d.nodes.length (fun i p hi hp => ?_) (fun p hp => ?_) ⟨n, rfl⟩
    · obtain ⟨m, rfl⟩ := hp
      have hw := wrS (i := i) (by have := hd.1; unfold SM at this; omega)
      simp only [tl_law23_heavy_l0_0]
      rw [run_req (by simp), run_iteT (by simp; omega)]
      by_cases c : (i : Int) < 200
      · exact .inl ⟨_, by rw [run_iteT (by simpa using c), run_req (by simp), run_req (by simp; omega), run_req (by simp), run_req (by simp; omega), run_ret, hw], _, rfl⟩
      · right
        exact ⟨_, by rw [run_iteF (by simpa using c), run_ret], _, rfl⟩
    · obtain ⟨m, rfl⟩ := hp
      simp only [tl_law23_heavy_l0_0]
      exact ⟨_, by rw [run_req (by simp), run_iteF (by simp), run_ret], _, rfl⟩
  obtain ⟨r, h1, m, rfl⟩ := hin 0
  have hl : ∃ m : Int, L_law23_heavy_l0 ([d], 0, 0) = some ([d], m) := by
    refine ⟨m, ?_⟩
    have h0 : (tl_law23_heavy_l0 [d] 0 0).run = some (.inl ([d], m, 1)) := by
      simp only [tl_law23_heavy_l0]
      rw [run_iteT (by simp), run_iteT (by decide), run_bind h1, run_ret]
      rfl
    refine (fixT_next (q := ([d], m, 1)) h0).trans (fixT_out ?_)
    simp only [tl_law23_heavy_l0]
    rw [run_iteF (by simp), run_ret]
  obtain ⟨m, hm⟩ := hl
  simp only [f_law23_heavy, t_law23_heavy]
  rw [run_bind hm, run_iteF (by simp), run_ret]
  exact ⟨_, rfl⟩

theorem DskOK.namesS {d : Dsk} (h : DskOK d) (ino : Int) : SortN (getN d.nodes ino).1.names := by
  cases hb : (getN d.nodes ino).2 with
  | true => exact sorted_of (lt := fun a b : Nam => bytesLt a.name b.name = true) (fun h k => bl_trans h k) (h.nodes _ (getN_mem hb).1).sorted
  | false =>
    have : (getN d.nodes ino).1 = nodZ := by
      unfold getN at hb ⊢
      split at hb
      · cases hb
      · rfl
    rw [this]
    intro i j hij hj
    simp [nodZ] at hj

theorem e_r5_Name {n : Nod} (hl : n.names.length ≤ SM) (s : Str) : f_r5_Name n s = some (getS n.names s) := by
  have hloop : L_r5_Name_l0 (s, n, 0) = _ := loop_find n.names (fun x => x.name == s) (fun i => (s, n, (i : Int))) (fun i x => (.inl (x.ino, true) : (Int × Bool) ⊕ Unit)) (.inr ())
    (fun i hi hp _ => by
      have hw := wrS (i := i) (by unfold SM at hl; omega)
      simp only [tl_r5_Name_l0]
      rw [run_iteT (by simp; omega), run_req (inb hi)]
      simp only [getD_int hi]
      rw [run_iteF hp, run_ret, hw])
    (fun i hi hp _ => by
      simp only [tl_r5_Name_l0]
      rw [run_iteT (by simp; omega), run_req (inb hi)]
      simp only [getD_int hi]
      rw [run_iteT hp, run_req (inb hi), run_ret])
    (fun _ => by
      simp only [tl_r5_Name_l0]
      rw [run_iteF (by simp), run_ret])
  simp only [f_r5_Name, t_r5_Name]
  cases hf : n.names.find? (fun x => x.name == s) with
  | none =>
    have : L_r5_Name_l0 (s, n, 0) = some (.inr ()) := by
      rw [hloop, hf]
      cases n.names.findIdx? (fun x => x.name == s) <;> rfl
    rw [run_bind this, run_caseR, run_ret]
    unfold getS; rw [hf]
  | some x =>
    obtain ⟨i, hi⟩ : ∃ i, n.names.findIdx? (fun x => x.name == s) = some i := by
      obtain ⟨h2, i, hi, e, hlt⟩ := List.find?_eq_some_iff_getElem.1 hf
      refine ⟨i, ?_⟩
      rw [List.findIdx?_eq_some_iff_getElem]
      exact ⟨hi, by rw [e]; exact h2, fun j hj => by have := hlt j hj; simpa using this⟩
    have : L_r5_Name_l0 (s, n, 0) = some (.inl (x.ino, true)) := by rw [hloop, hf, hi]
    rw [run_bind this, run_caseL, run_ret]
    unfold getS; rw [hf]

/-- What a file holds that is read whole. -/
def fileR (n : Nod) : List UInt8 × Int :=
  if n.kind = 2 then ([], 5) else if n.kind = 3 then ([], 1) else (readL n.file.blocks 0 n.file.size.toNat, 0)

theorem getN_fil {d : Dsk} (hd : SmD d) (ok : DskOK d) (ino : Int) : FilOK (getN d.nodes ino).1.file := by
  cases hb : (getN d.nodes ino).2 with
  | true => exact (ok.nodes _ (getN_mem hb).1).file
  | false =>
    have : (getN d.nodes ino).1 = nodZ := by
      unfold getN at hb ⊢
      split at hb
      · cases hb
      · rfl
    rw [this]
    exact ⟨by simp [nodZ], by simp [nodZ], fun i h => by simp [nodZ] at h, fun i h => by simp [nodZ] at h⟩

theorem e_keep_Read {d : Dsk} (hd : SmD d) (ok : DskOK d) (ino : Int) : f_keep_Read d ino 0 32768 = some (fileR (getN d.nodes ino).1) := by
  have hg := e_disk_Get hd ok.sortI ino
  have hf := getN_fil hd ok ino
  have hs := (getN_sm hd.2 ino).2.1
  generalize hn : getN d.nodes ino = p at *
  obtain ⟨n, b⟩ := p
  dsimp only at hf hs
  have hin : ∀ x : Int, 0 ≤ x → x ≤ 32768 → f_keep_in x = some true := fun x h1 h2 => by
    simp only [f_keep_in, t_keep_in]; rw [run_iteT (by simpa using h1), run_ret]; simp [h2]
  obtain ⟨sz, hsz⟩ : ∃ k : Nat, n.file.size = (k : Int) := ⟨n.file.size.toNat, by have := hf.lo; omega⟩
  have hhi := hf.hi
  have hr := e_sparse_Read hf.filS hs sz 0 32768 hsz (by omega) (by omega)
  rw [show min (0 + 32768) sz - 0 = sz by omega] at hr
  simp only [f_keep_Read, t_keep_Read]
  have hfile : f_keep_file d ino = some (n, if n.kind = 2 then 5 else if n.kind = 3 then 1 else 0) := by
    simp only [f_keep_file, t_keep_file]
    rw [run_bind hg]
    by_cases c1 : n.kind = 2
    · rw [run_iteT (by simpa using c1), run_ret, if_pos c1]
    · rw [run_iteF (by simpa using c1), if_neg c1]
      by_cases c2 : n.kind = 3
      · rw [run_iteT (by simpa using c2), run_ret, if_pos c2]
      · rw [run_iteF (by simpa using c2), run_ret, if_neg c2]
  rw [run_bind hfile]
  unfold fileR
  dsimp only
  by_cases c1 : n.kind = 2
  · rw [if_pos c1, run_iteT (by rfl), run_ret, if_pos c1]
  · rw [if_neg c1, if_neg c1]
    by_cases c2 : n.kind = 3
    · rw [if_pos c2, run_iteT (by rfl), run_ret, if_pos c2]
    · rw [if_neg c2, run_iteF (by rfl), run_bind (hin 0 (by omega) (by omega)), run_iteF (by rfl), run_bind (hin 32768 (by omega) (by omega)), run_iteF (by rfl), if_neg c2]
      refine (run_bind hr).trans ?_
      rw [run_ret, hsz, Int.toNat_natCast]

theorem e_r7_Read {d : Dsk} (hd : SmD d) (ok : DskOK d) (ino : Int) : f_r7_Read d ino 0 32768 = some (fileR (getN d.nodes ino).1) := by
  have hg := e_r3_Get hd ino
  have hf := getN_fil hd ok ino
  have hs := (getN_sm hd.2 ino).2.1
  generalize hn : getN d.nodes ino = p at *
  obtain ⟨n, b⟩ := p
  dsimp only at hf hs
  obtain ⟨sz, hsz⟩ : ∃ k : Nat, n.file.size = (k : Int) := ⟨n.file.size.toNat, by have := hf.lo; omega⟩
  have hhi := hf.hi
  have hr := e_r2_Read hf.filS hs sz 0 32768 hsz (by omega) (by omega)
  rw [show min (0 + 32768) sz - 0 = sz by omega] at hr
  simp only [f_r7_Read, t_r7_Read]
  have hfile : f_r7_file n = some (if n.kind = 2 then 5 else if n.kind = 3 then 1 else 0) := by
    simp only [f_r7_file, t_r7_file]
    by_cases c1 : n.kind = 2
    · rw [run_iteT (by simpa using c1), run_ret, if_pos c1]
    · rw [run_iteF (by simpa using c1), if_neg c1]
      by_cases c2 : n.kind = 3
      · rw [run_iteT (by simpa using c2), run_ret, if_pos c2]
      · rw [run_iteF (by simpa using c2), run_ret, if_neg c2]
  rw [run_bind hg, run_bind hfile]
  unfold fileR
  dsimp only
  by_cases c1 : n.kind = 2
  · rw [if_pos c1, run_iteT (by rfl), run_ret, if_pos c1]
  · rw [if_neg c1, if_neg c1]
    by_cases c2 : n.kind = 3
    · rw [if_pos c2, run_iteT (by rfl), run_ret, if_pos c2]
    · rw [if_neg c2, run_iteF (by rfl), run_iteF (by rfl), run_iteF (by rfl), run_iteF (by rfl), run_iteF (by rfl), if_neg c2]
      refine (run_bind hr).trans ?_
      rw [run_ret, hsz, Int.toNat_natCast]

theorem fileR_len {d : Dsk} (hd : SmD d) (ok : DskOK d) (ino : Int) : (fileR (getN d.nodes ino).1).1.length ≤ 40000 := by
  have hf := getN_fil hd ok ino
  have := hf.hi
  unfold fileR
  split
  · simp
  · split
    · simp
    · rw [readL_len]; omega

abbrev xino : Str := [46, 119, 104, 46, 46, 119, 104, 46, 120, 105, 110, 111]

def loadT (d : Dsk) : Tbl × Int :=
  match getS (getN d.nodes 1).1.names xino with
  | (_, false) => (noT, 2)
  | (ino, true) => if (fileR (getN d.nodes ino).1).2 = 0 then fRead (fileR (getN d.nodes ino).1).1 else (noT, 11)

theorem e_save_Load {d : Dsk} (hd : SmD d) (hs : SortI d.nodes) (hn : SortN (getN d.nodes 1).1.names) (ok : ∀ ino, getS (getN d.nodes 1).1.names xino = (ino, true) → DskOK d) : f_save_Load d = some (loadT d) := by
  have hg := e_disk_Get hd hs 1
  have hf := e_find_Name (getN_sm hd.2 1).1 hn xino
  unfold loadT
  have hfile : f_save_file d = some (getS (getN d.nodes 1).1.names xino) := by
    simp only [f_save_file, t_save_file]
    rw [run_bind hg, run_bind hf, run_ret]
  simp only [f_save_Load, t_save_Load]
  rw [run_bind hfile]
  generalize hp : getS (getN d.nodes 1).1.names xino = p at *
  obtain ⟨ino, b⟩ := p
  cases b with
  | false => rw [run_iteT (by rfl), run_ret]; rfl
  | true =>
    have ok := ok ino rfl
    have hl := fileR_len hd ok ino
    rw [run_iteF (by rfl), run_bind (e_keep_Read hd ok ino)]
    dsimp only
    by_cases c : (fileR (getN d.nodes ino).1).2 = 0
    · rw [run_iteF (by simpa using c), run_bind (e_Read _ hl), run_ret, if_pos c]
    · rw [run_iteT (by simpa using c), run_ret, if_neg c]; rfl

theorem e_r23_Load {d : Dsk} (hd : SmD d) (ok : DskOK d) : f_r23_Load d = some (loadT d) := by
  have hg := e_r3_Get hd 1
  have hf := e_r5_Name (getN_sm hd.2 1).1 xino
  unfold loadT
  simp only [f_r23_Load, t_r23_Load]
  rw [run_bind hg, run_bind hf]
  generalize hp : getS (getN d.nodes 1).1.names xino = p at *
  obtain ⟨ino, b⟩ := p
  cases b with
  | false => rw [run_iteT (by rfl), run_ret]; rfl
  | true =>
    have hl := fileR_len hd ok ino
    rw [run_iteF (by rfl), run_bind (e_r7_Read hd ok ino)]
    dsimp only
    by_cases c : (fileR (getN d.nodes ino).1).2 = 0
    · rw [run_iteF (by simpa using c), run_bind (e_rRead _ hl), run_ret, if_pos c]
    · rw [run_iteT (by simpa using c), run_ret, if_neg c]; rfl

theorem loadT_len {d : Dsk} (hd : SmD d) (ok : DskOK d) : (loadT d).1.rows.length ≤ 1000000 ∧ (loadT d).1.homes.length ≤ 1000000 := by
  unfold loadT
  split
  · simp [noT]
  · rename_i ino _
    have hl := fileR_len hd ok ino
    split
    · have := fRead_len (fileR (getN d.nodes ino).1).1; omega
    · simp [noT]

theorem e_known23 : f_law23_known = some true := by
  let r : Nod := Nod.mk 1 2 493 1 (Fil.mk 0 []) [] []
  let d : Dsk := Dsk.mk 5 5 2 [r]
  have hn : f_r3_New 5 5 = some d := by
    simp only [f_r3_New, t_r3_New]; rw [run_ret]
  have hsm : SmD d := ⟨by simp [d, SM], fun n hn => by simp [d] at hn; subst hn; exact ⟨by simp [r, SM], by simp [r, SM], by simp [r]⟩⟩
  have e1 : getN d.nodes 1 = (r, true) := rfl
  have h1 : f_save_Load d = some (noT, 2) := by
    have := e_save_Load (d := d) hsm (fun i j hij hj => by simp [d] at hj; omega) (by rw [e1]; intro i j hij hj; simp [r] at hj) (fun ino h => by rw [e1] at h; cases h)
    rw [this]; rfl
  simp only [f_law23_known, t_law23_known]
  rw [run_bind hn, run_bind h1, run_ret]
  rfl

theorem lawW_SaveReads (d : Dsk) (h : wDsk d + 0 ≤ 1048576) : f_law23_SaveReads d = some true := by
  obtain ⟨hd, hs, _⟩ := sm_of_w (d := d) (n := 1048576) (by omega) (by unfold SM; omega)
  obtain ⟨b, hb⟩ := e_heavy23 hd
  simp only [f_law23_SaveReads, t_law23_SaveReads]
  rw [run_bind hb]
  cases b with
  | true => rw [run_iteT (by rfl), run_ret]
  | false =>
    rw [run_iteF (by rfl)]
    obtain ⟨b, hb, hok⟩ := e_r3_Is hd hs
    rw [run_bind hb]
    cases b with
    | false => rw [run_iteT (by rfl), run_ret]
    | true =>
      have ok := hok rfl
      obtain ⟨l1, l2⟩ := loadT_len hd ok
      rw [run_iteF (by rfl), run_bind (e_save_Load hd ok.sortI (ok.namesS 1) fun _ _ => ok), run_bind (e_r23_Load hd ok), run_iteT (by simp), run_bind (e_rSame _ _ l1 l2), run_iteT (by simp), run_bind e_known23, run_ret]

end Go.Proofs.Ythbgioembchnkaa.VS
