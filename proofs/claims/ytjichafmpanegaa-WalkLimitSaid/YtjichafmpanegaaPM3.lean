/- Chapter 12, the program alone: paths in many trees. Conditions: none. -/
import Derived.Test.YtjichafmpanegaaPM2
namespace Go.Proofs.Ytjichafmpanegaa.VS
set_option maxRecDepth 100000
set_option linter.unusedVariables false
set_option linter.unusedSimpArgs false

def rootsW (w : Wld) : List Spt := (List.range w.disks.length).map fun (i : Nat) => ⟨(i : Int), 1⟩
theorem rootsW_len (w : Wld) : (rootsW w).length = w.disks.length := by simp [rootsW]
theorem rootsW_in (w : Wld) : ∀ s ∈ rootsW w, InW w s := fun s hs => by
  unfold rootsW at hs
  obtain ⟨i, hi, rfl⟩ := List.mem_map.1 hs
  rw [List.mem_range] at hi
  exact ⟨by show (0 : Int) ≤ (i : Int); omega, by show (i : Int) < _; omega⟩
def rootsN (n : Nat) : List Spt := (List.range n).map fun (i : Nat) => ⟨(i : Int), 1⟩
theorem rootsN_succ (n : Nat) : rootsN (n + 1) = rootsN n ++ [⟨(n : Int), 1⟩] := by simp [rootsN, List.range_succ]
theorem rootsN_len (n : Nat) : (rootsN n).length = n := by simp [rootsN]

theorem e_seen_Roots {w : Wld} (h : GW w) : f_seen_Roots w = some (rootsW w) := by
  have hf := h.few
  have hl : L_seen_Roots_l0 ([], (w.disks.length : Int), 0) = some (rootsW w) := by
    refine loop_to (fun i => (rootsN i, (w.disks.length : Int), (i : Int))) w.disks.length (fun i hi => ?_) ?_
    · have hw := wrS (i := i) (by omega)
      simp only [tl_seen_Roots_l0]
      rw [run_iteT (by simp; omega), run_req ⟨trivial, rmM (by rw [List.length_append, rootsN_len]; simp [SM]; omega) (by omega)⟩, run_same, run_ret, hw, rootsN_succ]
    · simp only [tl_seen_Roots_l0]
      rw [run_iteF (by simp), run_same, run_ret]
      rfl
  simp only [f_seen_Roots, t_seen_Roots]
  rw [run_bind hl, run_same, run_ret]

theorem e_walk_Node {w : Wld} (h : GW w) {s : Spt} (hs : InW w s) : f_walk_Node w s = some (ndW w s) := by
  have g := h.dk hs
  have hg := e_disk_Get g.sm g.sort s.ino
  simp only [f_walk_Node, t_walk_Node]
  rw [run_iteF (by have := hs.1; simpa using this), run_iteF (by have := hs.2; simpa using this), run_req ⟨hs.1, hs.2⟩]
  exact (run_bind hg).trans rfl
theorem e_walk_IsDir {w : Wld} (h : GW w) {s : Spt} (hs : InW w s) : f_walk_IsDir w s = some ((ndW w s).kind == 2) := by
  simp only [f_walk_IsDir, t_walk_IsDir]
  rw [run_bind (e_walk_Node h hs), run_ret]
def goW (w : Wld) : List Str → List Spt → Int → List Spt × Int × Int
  | [], s, lim => (s, lim, 0)
  | x :: r, s, lim =>
    if (ndW w (s.getD 0 GT.spt.nought)).kind = 2 then
      if (lookW w x [] s).1 = [] then ([], 0, 2)
      else goW w r (lookW w x [] s).1 (if (lookW w x [] s).2 < lim then (lookW w x [] s).2 else lim)
    else ([], 0, 4)

def findW (w : Wld) (l : List Str) : List Spt × Int × Int := goW w l (rootsW w) ((w.disks.length : Int) - 1)

structure SptsOK (w : Wld) (s : List Spt) : Prop where
  ne : s ≠ []
  all : ∀ x ∈ s, InW w x
  len : s.length ≤ 8

theorem SptsOK.head {w : Wld} {s : List Spt} (h : SptsOK w s) : InW w (s.getD 0 GT.spt.nought) := by
  have : 0 < s.length := List.length_pos_iff.2 h.ne
  rw [getD_at this]
  exact h.all _ (List.getElem_mem _)

theorem goW_ok {w : Wld} : ∀ {l : List Str} {s : List Spt} {lim : Int}, SptsOK w s → (goW w l s lim).2.2 = 0 → SptsOK w (goW w l s lim).1
  | [], s, lim, h, _ => h
  | x :: r, s, lim, h, he => by
    unfold goW at he ⊢
    split
    · rename_i c
      rw [if_pos c] at he
      split
      · rename_i c2
        rw [if_pos c2] at he
        exact absurd he (by decide)
      · rename_i c2
        rw [if_neg c2] at he
        have hi := lookW_in (name := x) h.all (acc := []) (fun s hs => by simp at hs)
        exact goW_ok ⟨c2, hi.1, by have := hi.2; have := h.len; simp at *; omega⟩ he
    · rename_i c
      rw [if_neg c] at he
      exact absurd he (by decide)

theorem look_ok {w : Wld} {s : List Spt} (h : SptsOK w s) (x : Str) (c : ¬ (lookW w x [] s).1 = []) : SptsOK w (lookW w x [] s).1 := by
  have hi := lookW_in (name := x) h.all (acc := []) (fun s hs => by simp at hs)
  exact ⟨c, hi.1, by have := hi.2; have := h.len; simp at *; omega⟩

theorem e_walk_loop {w : Wld} (h : GW w) (l : List Str) (hl : l.length ≤ SM) (hn : ∀ x ∈ l, x.length ≤ SM) : ∀ (k i : Nat) (s : List Spt) (lim : Int), i + k = l.length → SptsOK w s →
    ∃ r, L_walk_Find_l0 (w, s, lim, l, (l.length : Int), (i : Int)) = some r ∧ (match r with | .inl p => p | .inr q => (q.1, q.2, 0)) = goW w (l.drop i) s lim
  | 0, i, s, lim, hi, hs => by
    refine ⟨.inr (s, lim), fixT_out ?_, by rw [List.drop_eq_nil_of_le (by omega)]; rfl⟩
    simp only [tl_walk_Find_l0]
    rw [run_iteF (by simp; omega), run_ret]
  | k + 1, i, s, lim, hi, hs => by
    have hil : i < l.length := by omega
    have hw := wrS (i := i) (by unfold SM at hl; omega)
    have hx := hn _ (List.getElem_mem hil)
    have hdir := e_walk_IsDir h hs.head
    have hlim := e_seen_Limit h l[i] hx s hs.all hs.len
    have hseen := e_seen_Seen h l[i] hx s hs.all hs.len
    have h0 : 0 < s.length := List.length_pos_iff.2 hs.ne
    rw [List.drop_eq_getElem_cons hil, goW]
    by_cases c : (ndW w (s.getD 0 GT.spt.nought)).kind = 2
    · rw [if_pos c]
      by_cases c2 : (lookW w l[i] [] s).1 = []
      · rw [if_pos c2]
        refine ⟨.inl ([], 0, 2), fixT_out ?_, rfl⟩
        simp only [tl_walk_Find_l0]
        rw [run_iteT (by simp; omega), run_req (inb hil), run_req ⟨by omega, by omega⟩]
        simp only [getD_int hil]
        refine (run_bind hdir).trans ?_
        rw [run_iteF (by simpa using c), run_bind hlim, run_bind hseen, run_iteT (by rw [c2]; rfl), run_ret]
      · rw [if_neg c2]
        obtain ⟨r, h1, h2⟩ := e_walk_loop h l hl hn k (i + 1) (lookW w l[i] [] s).1 (if (lookW w l[i] [] s).2 < lim then (lookW w l[i] [] s).2 else lim) (by omega) (look_ok hs _ c2)
        refine ⟨r, (fixT_next (q := (w, (lookW w l[i] [] s).1, (if (lookW w l[i] [] s).2 < lim then (lookW w l[i] [] s).2 else lim), l, (l.length : Int), ((i + 1 : Nat) : Int))) ?_).trans h1, h2⟩
        simp only [tl_walk_Find_l0]
        rw [run_iteT (by simp; omega), run_req (inb hil), run_req ⟨by omega, by omega⟩]
        simp only [getD_int hil]
        refine (run_bind hdir).trans ?_
        rw [run_iteF (by simpa using c), run_bind hlim, run_bind hseen, run_iteF (by simpa using c2), run_ret, hw]
    · rw [if_neg c]
      refine ⟨.inl ([], 0, 4), fixT_out ?_, rfl⟩
      simp only [tl_walk_Find_l0]
      rw [run_iteT (by simp; omega), run_req (inb hil), run_req ⟨by omega, by omega⟩]
      refine (run_bind hdir).trans ?_
      rw [run_iteT (by simpa using c), run_ret]

theorem roots_ok {w : Wld} (h : GW w) (h0 : w.disks ≠ []) : SptsOK w (rootsW w) :=
  ⟨fun e => by have := rootsW_len w; rw [e] at this; exact h0 (List.length_eq_zero_iff.1 this.symm), rootsW_in w, by rw [rootsW_len]; exact h.few⟩

theorem findW_ok {w : Wld} (h : GW w) (h0 : w.disks ≠ []) {l : List Str} (he : (findW w l).2.2 = 0) : SptsOK w (findW w l).1 := goW_ok (roots_ok h h0) he

theorem e_walk_Find {w : Wld} (h : GW w) (h0 : w.disks ≠ []) (l : List Str) (hl : l.length ≤ SM) (hn : ∀ x ∈ l, x.length ≤ SM) : f_walk_Find w l = some (findW w l) := by
  have hw : IntKind.i64.wrap ((w.disks.length : Int) - 1) = (w.disks.length : Int) - 1 := by have := h.few; rw [wr (by omega) (by omega)]
  obtain ⟨r, h1, h2⟩ := e_walk_loop h l hl hn l.length 0 (rootsW w) ((w.disks.length : Int) - 1) (by omega) (roots_ok h h0)
  simp only [f_walk_Find, t_walk_Find]
  rw [run_iteF (by simpa using h0), run_bind (e_seen_Roots h), hw]
  refine (run_bind h1).trans ?_
  unfold findW
  rw [List.drop_zero] at h2
  rw [← h2]
  cases r <;> rfl


def upW (w : Wld) (l : List Str) : List Spt × Int × Str × Int :=
  if (findW w (l.take (l.length - 1))).2.2 = 0 then
    if (ndW w ((findW w (l.take (l.length - 1))).1.getD 0 GT.spt.nought)).kind = 2 then ((findW w (l.take (l.length - 1))).1, (findW w (l.take (l.length - 1))).2.1, l.getD (l.length - 1) [], 0)
    else ([], 0, [], 4)
  else ([], 0, [], (findW w (l.take (l.length - 1))).2.2)

theorem e_walk_Up {w : Wld} (h : GW w) (h0 : w.disks ≠ []) (l : List Str) (hl : l.length ≤ SM) (hn : ∀ x ∈ l, x.length ≤ SM) (hne : l ≠ []) : f_walk_Up w l = some (upW w l) := by
  have hl0 : 0 < l.length := List.length_pos_iff.2 hne
  have hw : IntKind.i64.wrap ((l.length : Int) - 1) = ((l.length - 1 : Nat) : Int) := by unfold SM at hl; rw [wr (by omega) (by omega)]; omega
  have hf := e_walk_Find h h0 (l.take (l.length - 1)) (by rw [List.length_take]; omega) (fun x hx => hn x (List.mem_of_mem_take hx))
  have hok := fun e => findW_ok h h0 (l := l.take (l.length - 1)) e
  unfold upW
  generalize findW w (l.take (l.length - 1)) = p at *
  simp only [f_walk_Up, t_walk_Up]
  rw [run_iteF (by simpa using hne), hw, run_req ⟨by omega, by omega, by omega⟩]
  simp only [Int.toNat_natCast]
  refine (run_bind (show f_walk_Find w (List.drop (Int.toNat 0) (l.take (l.length - 1))) = some p from hf)).trans ?_
  by_cases c : p.2.2 = 0
  · have ok := hok c
    have hp0 : 0 < p.1.length := List.length_pos_iff.2 ok.ne
    rw [if_pos c, run_iteF (by simpa using c), run_req ⟨by omega, by omega⟩]
    refine (run_bind (e_walk_IsDir h ok.head)).trans ?_
    by_cases c2 : (ndW w (p.1.getD 0 GT.spt.nought)).kind = 2
    · rw [if_pos c2, run_iteF (by simpa using c2), run_req ⟨by omega, by omega⟩, run_ret]; rfl
    · rw [if_neg c2, run_iteT (by simpa using c2), run_ret]
  · rw [if_neg c, run_iteT (by simpa using c), run_ret]

theorem e_known12 : f_law12_known = some true := by
  let r : Nod := Nod.mk 1 2 493 1 (Fil.mk 0 []) [] []
  let d : Dsk := Dsk.mk 5 5 2 [r]
  have hn : f_r3_New 5 5 = some d := by
    simp only [f_r3_New, t_r3_New]; rw [run_ret]
  have hsm : SmD d := ⟨by simp [d, SM], fun n hn => by simp [d] at hn; subst hn; exact ⟨by simp [r, SM], by simp [r, SM], by simp [r]⟩⟩
  have hg : GDk d := ⟨hsm, fun i j hij hj => by simp [d] at hj; omega, fun ino => by
    unfold getN
    split
    · rename_i n hn
      have := List.mem_of_find?_eq_some hn
      simp [d] at this
      subst this
      intro i j hij hj; simp [r] at hj
    · intro i j hij hj; simp at hj⟩
  have gw : GW (Wld.mk (Cnf.mk [1, 2] 1) [d, d] (Tbl.mk 0 [] [] 0)) := ⟨by simp, fun x hx => by simp at hx; subst hx; exact hg⟩
  have hf := e_walk_Find gw (by simp) [] (by simp) (fun x hx => by simp at hx)
  have e1 : findW (Wld.mk (Cnf.mk [1, 2] 1) [d, d] (Tbl.mk 0 [] [] 0)) [] = ([⟨0, 1⟩, ⟨1, 1⟩], 1, 0) := rfl
  rw [e1] at hf
  have h1 := e_walk_IsDir gw (s := ⟨0, 1⟩) ⟨by decide, by simp⟩
  have h2 := e_walk_Node gw (s := ⟨1, 1⟩) ⟨by decide, by simp⟩
  simp only [f_law12_known, t_law12_known]
  rw [run_bind hn, run_bind hf, run_iteT (by rfl), run_iteT (by rfl), run_iteT (by rfl), run_req (by decide)]
  refine (run_bind h1).trans ?_
  rw [run_iteT (by rfl), run_req (by decide)]
  exact (run_bind h2).trans rfl

end Go.Proofs.Ytjichafmpanegaa.VS
