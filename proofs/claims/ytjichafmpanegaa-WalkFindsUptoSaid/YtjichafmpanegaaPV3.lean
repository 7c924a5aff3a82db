/- Chapter 12: of any world any path. Conditions: none. -/
import Derived.Test.YtjichafmpanegaaPV2
namespace Go.Proofs.Ytjichafmpanegaa.VS
set_option maxRecDepth 100000
set_option linter.unusedVariables false
set_option linter.unusedSimpArgs false

def upW (w : Wld) (l : List Str) : List Spt × Int × Str × Int :=
  if (findW w (l.take (l.length - 1))).2.2 = 0 then
    if (ndW w ((findW w (l.take (l.length - 1))).1.getD 0 GT.spt.nought)).kind = 2 then ((findW w (l.take (l.length - 1))).1, (findW w (l.take (l.length - 1))).2.1, l.getD (l.length - 1) [], 0)
    else ([], 0, [], 4)
  else ([], 0, [], (findW w (l.take (l.length - 1))).2.2)

theorem e_walk_Up {w : Wld} (h : GW w) (h0 : w.disks ≠ []) (l : List Str) (hl : l.length ≤ SM) (hn : ∀ x ∈ l, x.length ≤ SM) (hne : l ≠ []) : f_walk_Up w l = some (upW w l) := by
  have hl0 : 0 < l.length := List.length_pos_iff.2 hne
  have hw : IntKind.i64.wrap ((l.length : Int) - 1) = ((l.length - 1 : Nat) : Int) := by unfold SM at hl; rw [wr (by omega) (by omega)]; omega
  have hf := e_walk_Find h h0 (l.take (l.length - 1)) (by rw [List.length_take]; omega) (fun x hx => hn x (List.mem_of_mem_take hx))
  have hok := fun e => findW_ok h h0 (l := l.take (l.length - 1)) e
  unfold upW
  generalize findW w (l.take (l.length - 1)) = p at *
  simp only [f_walk_Up, t_walk_Up]
  rw [run_iteF (by simpa using hne), hw, run_req ⟨by omega, by omega, by omega⟩]
  simp only [Int.toNat_natCast]
  refine (run_bind (show f_walk_Find w (List.drop (Int.toNat 0) (l.take (l.length - 1))) = some p from hf)).trans ?_
  by_cases c : p.2.2 = 0
  · have ok := hok c
    have hp0 : 0 < p.1.length := List.length_pos_iff.2 ok.ne
    rw [if_pos c, run_iteF (by simpa using c), run_req ⟨by omega, by omega⟩]
    refine (run_bind (e_walk_IsDir h ok.head)).trans ?_
    by_cases c2 : (ndW w (p.1.getD 0 GT.spt.nought)).kind = 2
    · rw [if_pos c2, run_iteF (by simpa using c2), run_req ⟨by omega, by omega⟩, run_ret]; rfl
    · rw [if_neg c2, run_iteT (by simpa using c2), run_ret]
  · rw [if_neg c, run_iteT (by simpa using c), run_ret]

theorem e_r12_Up {w : Wld} (h : GW w) (h0 : w.disks ≠ []) (l : List Str) (hl : l.length ≤ SM) (hn : ∀ x ∈ l, x.length ≤ SM) (hne : l ≠ []) : f_r12_Up w l = some (upW w l) := by
  have hl0 : 0 < l.length := List.length_pos_iff.2 hne
  have hw : IntKind.i64.wrap ((l.length : Int) - 1) = ((l.length - 1 : Nat) : Int) := by unfold SM at hl; rw [wr (by omega) (by omega)]; omega
  have hf := e_r12_Find h h0 (l.take (l.length - 1)) (by rw [List.length_take]; omega) (fun x hx => hn x (List.mem_of_mem_take hx))
  have hok := fun e => findW_ok h h0 (l := l.take (l.length - 1)) e
  unfold upW
  generalize findW w (l.take (l.length - 1)) = p at *
  simp only [f_r12_Up, t_r12_Up]
  rw [hw, run_req ⟨by omega, by omega, by omega⟩]
  simp only [Int.toNat_natCast]
  refine (run_bind (show f_r12_Find w (List.drop (Int.toNat 0) (l.take (l.length - 1))) = some p from hf)).trans ?_
  by_cases c : p.2.2 = 0
  · have ok := hok c
    have hp0 : 0 < p.1.length := List.length_pos_iff.2 ok.ne
    rw [if_pos c, run_iteF (by simpa using c), run_req ⟨by omega, by omega⟩]
    refine (run_bind (e_r12_IsDir h ok.head)).trans ?_
    by_cases c2 : (ndW w (p.1.getD 0 GT.spt.nought)).kind = 2
    · rw [if_pos c2, run_iteF (by simpa using c2), run_req ⟨by omega, by omega⟩, run_ret]; rfl
    · rw [if_neg c2, run_iteT (by simpa using c2), run_ret]
  · rw [if_neg c, run_iteT (by simpa using c), run_ret]

theorem e_r11_Spots {s : List Spt} (hl : s.length ≤ SM) : f_r11_Spots s s = some true := by
  have hL : L_r11_Spots_l0 (s, s, 0) = some (.inr ()) := by
    refine loop_to (fun i => (s, s, (i : Int))) s.length (fun i hi => ?_) ?_
    · have hw := wrS (i := i) (by unfold SM at hl; omega)
      simp only [tl_r11_Spots_l0]
      rw [run_iteT (by simp; omega), run_req (inb hi), run_req (inb hi), run_iteF (by simp), run_ret, hw]
    · simp only [tl_r11_Spots_l0]
      rw [run_iteF (by simp), run_ret]
  simp only [f_r11_Spots, t_r11_Spots]
  rw [run_iteF (by simp), run_bind hL, run_caseR, run_ret]

theorem e_r3_names {s : List Nam} (hl : s.length ≤ SM) : f_r3_names s s = some true := by
  have hL : L_r3_names_l0 (s, s, 0) = some (.inr ()) := by
    refine loop_to (fun i => (s, s, (i : Int))) s.length (fun i hi => ?_) ?_
    · have hw := wrS (i := i) (by unfold SM at hl; omega)
      simp only [tl_r3_names_l0]
      rw [run_iteT (by simp; omega), run_req (inb hi), run_req (inb hi), run_iteF (by simp), run_ret, hw]
    · simp only [tl_r3_names_l0]
      rw [run_iteF (by simp), run_ret]
  simp only [f_r3_names, t_r3_names]
  rw [run_iteF (by simp), run_bind hL, run_caseR, run_ret]

theorem e_r2_Same {f : Fil} (hf : FilOK f) (hl : f.blocks.length ≤ SM) : f_r2_Same f f = some true := by
  obtain ⟨sz, hsz⟩ : ∃ k : Nat, f.size = (k : Int) := ⟨f.size.toNat, by have := hf.lo; omega⟩
  have hhi := hf.hi
  have hr := e_r2_Read hf.filS hl sz 0 sz hsz (by omega) (by omega)
  simp only [f_r2_Same, t_r2_Same]
  rw [run_iteT (by simp), hsz]
  refine (run_bind hr).trans ?_
  refine (run_bind hr).trans ?_
  rw [run_ret]; simp

theorem e_r3_Nodes {n : Nod} (hf : FilOK n.file) (hn : SmN n) : f_r3_Nodes n n = some true := by
  simp only [f_r3_Nodes, t_r3_Nodes]
  rw [run_iteT (by simp), run_iteT (by simp), run_iteT (by simp), run_iteT (by simp), run_iteT (by simp), run_bind (e_r3_names hn.1), run_iteT (by rfl), run_bind (e_r2_Same hf hn.2.1), run_ret]

/-! ### A world that may be -/

theorem e_heavyW {l : List Dsk} (hl : l.length ≤ SM) (hd : ∀ d ∈ l, SmD d) : ∃ b, f_law12_heavy l = some b ∧ (b = false → l.length ≤ 8) := by
  have hin : ∀ (k : Nat) (hk : k < l.length) (n : Int), ∃ r, L_law12_heavy_l0_0 (l, n, (k : Int), 0) = some r ∧ ∃ m : Int, r = (l, m, (k : Int)) := by
    intro k hk n
    have hdk := hd _ (List.getElem_mem hk)
    refine loop_inv (fun i p => ∃ m : Int, p = (l, m, (k : Int), (i : Int))) (fun r => ∃ m : Int, r = (l, m, (k : Int))) l[k].nodes.length (fun i p hi hp => ?_) (fun p hp => ?_) ⟨n, rfl⟩
    · obtain ⟨m, rfl⟩ := hp
      have hw := wrS (i := i) (by have := hdk.1; unfold SM at this; omega)
      simp only [tl_law12_heavy_l0_0, getD_int hk]
      rw [run_req (inb hk), run_iteT (by simp; omega)]
      by_cases c : (i : Int) < 200
      · exact .inl ⟨_, by rw [run_iteT (by simpa using c), run_req (inb hk), run_req (inb hi), run_req (inb hk), run_req (inb hi), run_ret, hw], _, rfl⟩
      · right
        exact ⟨_, by rw [run_iteF (by simpa using c), run_ret], _, rfl⟩
    · obtain ⟨m, rfl⟩ := hp
      simp only [tl_law12_heavy_l0_0, getD_int hk]
      exact ⟨_, by rw [run_req (inb hk), run_iteF (by simp), run_ret], _, rfl⟩
  have hout : ∃ r, L_law12_heavy_l0 (l, 0, 0) = some r ∧ ∃ m : Int, r = (l, m) := by
    refine loop_inv (fun i p => ∃ m : Int, p = (l, m, (i : Int))) (fun r => ∃ m : Int, r = (l, m)) l.length (fun i p hi hp => ?_) (fun p hp => ?_) ⟨0, rfl⟩
    · obtain ⟨m, rfl⟩ := hp
      have hw := wrS (i := i) (by unfold SM at hl; omega)
      simp only [tl_law12_heavy_l0]
      rw [run_iteT (by simp; omega)]
      by_cases c : (i : Int) < 10
      · obtain ⟨r, h1, m', rfl⟩ := hin i hi m
        exact .inl ⟨_, by rw [run_iteT (by simpa using c), run_bind h1, run_ret, hw], _, rfl⟩
      · right
        exact ⟨_, by rw [run_iteF (by simpa using c), run_ret], _, rfl⟩
    · obtain ⟨m, rfl⟩ := hp
      simp only [tl_law12_heavy_l0]
      exact ⟨_, by rw [run_iteF (by simp), run_ret], _, rfl⟩
  obtain ⟨r, h1, m, rfl⟩ := hout
  simp only [f_law12_heavy, t_law12_heavy]
  rw [run_bind h1]
  by_cases c : (l.length : Int) > 8
  · exact ⟨true, by rw [run_iteT (by simpa using c), run_ret], fun h => by cases h⟩
  · exact ⟨_, by rw [run_iteF (by simpa using c), run_ret], fun _ => by omega⟩

theorem e_r9_Is {c : Cnf} (hl : c.ways.length ≤ SM) : ∃ b, f_r9_Is c = some b ∧ (b = true → 1 ≤ c.ways.length) := by
  have hL : ∃ r, L_r9_Is_l0 (c, 0) = some r ∧ (r = .inl false ∨ r = .inr c) := by
    refine loop_inv (fun i p => p = (c, (i : Int))) (fun r : Bool ⊕ Cnf => r = .inl false ∨ r = .inr c) c.ways.length (fun i p hi hp => ?_) (fun p hp => ?_) rfl
    · subst hp
      have hw := wrS (i := i) (by unfold SM at hl; omega)
      simp only [tl_r9_Is_l0]
      rw [run_iteT (by simp; omega), run_req (inb hi)]
      simp only [getD_int hi]
      by_cases c1 : c.ways[i] < 1
      · exact .inr ⟨_, by rw [run_iteT (by simpa using c1), run_ret], .inl rfl⟩
      · by_cases c2 : c.ways[i] > 3
        · exact .inr ⟨_, by rw [run_iteF (by simpa using c1), run_req (inb hi), run_iteT (by simpa using c2), run_ret], .inl rfl⟩
        · exact .inl ⟨_, by rw [run_iteF (by simpa using c1), run_req (inb hi), run_iteF (by simpa using c2), run_ret, hw], rfl⟩
    · subst hp
      simp only [tl_r9_Is_l0]
      exact ⟨_, by rw [run_iteF (by simp), run_ret], .inr rfl⟩
  obtain ⟨r, h1, rfl | rfl⟩ := hL
  · exact ⟨false, by simp only [f_r9_Is, t_r9_Is]; rw [run_bind h1, run_caseL, run_ret], fun h => by cases h⟩
  · simp only [f_r9_Is, t_r9_Is]
    rw [run_bind h1, run_caseR]
    by_cases c1 : (c.ways.length : Int) ≥ 1
    · rw [run_iteT (by simpa using c1)]
      by_cases c2 : (c.ways.length : Int) ≤ 8
      · rw [run_iteT (by simpa using c2), run_req ⟨by omega, by omega⟩]
        cases hb : (c.ways.getD (Int.toNat 0) GT.int.nought == 1) with
        | false => exact ⟨false, by rw [run_iteF (by rfl), run_ret], fun h => by cases h⟩
        | true =>
          rw [run_iteT (by rfl)]
          by_cases c3 : c.policy ≥ 1
          · exact ⟨_, by rw [run_iteT (by simpa using c3), run_ret], fun _ => by omega⟩
          · exact ⟨false, by rw [run_iteF (by simpa using c3), run_ret], fun h => by cases h⟩
      · exact ⟨false, by rw [run_iteF (by simpa using c2), run_ret], fun h => by cases h⟩
    · exact ⟨false, by rw [run_iteF (by simpa using c1), run_ret], fun h => by cases h⟩

structure SmW (w : Wld) : Prop where
  ways : w.conf.ways.length ≤ SM
  disks : w.disks.length ≤ SM
  disk : ∀ d ∈ w.disks, SmD d ∧ ∀ n ∈ d.nodes, ∀ x ∈ n.names, x.name.length ≤ SM

theorem e_such {w : Wld} (hs : SmW w) : ∃ b, f_law12_such w = some b ∧ (b = true → w.disks.length ≤ 8 ∧ w.disks ≠ [] ∧ ∀ d ∈ w.disks, DskOK d) := by
  obtain ⟨b1, h1, k1⟩ := e_heavyW hs.disks fun d hd => (hs.disk d hd).1
  simp only [f_law12_such, t_law12_such]
  rw [run_bind h1]
  cases b1 with
  | true => exact ⟨false, by rw [run_iteT (by rfl), run_ret], fun h => by cases h⟩
  | false =>
    rw [run_iteF (by rfl)]
    by_cases c1 : (w.table.rows.length : Int) > 300
    · exact ⟨false, by rw [run_iteT (by simpa using c1), run_ret], fun h => by cases h⟩
    rw [run_iteF (by simpa using c1)]
    by_cases c2 : (w.table.homes.length : Int) > 300
    · exact ⟨false, by rw [run_iteT (by simpa using c2), run_ret], fun h => by cases h⟩
    rw [run_iteF (by simpa using c2)]
    obtain ⟨b2, h2, k2⟩ := e_r9_Is hs.ways
    rw [run_bind h2]
    cases b2 with
    | false => exact ⟨false, by rw [run_iteT (by rfl), run_ret], fun h => by cases h⟩
    | true =>
      rw [run_iteF (by rfl)]
      by_cases c3 : (w.disks.length : Int) = (w.conf.ways.length : Int)
      · rw [run_iteF (by simpa using c3)]
        have hL : ∃ r, L_law12_such_l0 (w, 0) = some r ∧ (r = .inl false ∨ (r = .inr () ∧ ∀ k (hk : k < w.disks.length), DskOK w.disks[k])) := by
          refine loop_inv (fun i p => p = (w, (i : Int)) ∧ ∀ k (hk : k < w.disks.length), k < i → DskOK w.disks[k]) (fun r : Bool ⊕ Unit => r = .inl false ∨ (r = .inr () ∧ ∀ k (hk : k < w.disks.length), DskOK w.disks[k])) w.disks.length (fun i p hi hp => ?_) (fun p hp => ?_) ⟨rfl, fun k hk h => by omega⟩
          · obtain ⟨rfl, hp⟩ := hp
            have hw := wrS (i := i) (by have := hs.disks; unfold SM at this; omega)
            have hsd := hs.disk _ (List.getElem_mem hi)
            obtain ⟨b, hb, hok⟩ := e_r3_Is hsd.1 hsd.2
            simp only [tl_law12_such_l0]
            rw [run_iteT (by simp; omega), run_req (inb hi)]
            simp only [getD_int hi]
            rw [run_bind hb]
            cases b with
            | false => exact .inr ⟨_, by rw [run_iteT (by rfl), run_ret], .inl rfl⟩
            | true => exact .inl ⟨_, by rw [run_iteF (by rfl), run_ret, hw], rfl, fun k hk h => by
                by_cases e : k = i
                · subst e; exact hok rfl
                · exact hp k hk (by omega)⟩
          · obtain ⟨rfl, hp⟩ := hp
            simp only [tl_law12_such_l0]
            exact ⟨_, by rw [run_iteF (by simp), run_ret], .inr ⟨rfl, fun k hk => hp k hk hk⟩⟩
        obtain ⟨r, h3, rfl | ⟨rfl, h4⟩⟩ := hL
        · exact ⟨false, by rw [run_bind h3, run_caseL, run_ret], fun h => by cases h⟩
        · refine ⟨true, by rw [run_bind h3, run_caseR, run_ret], fun _ => ⟨k1 rfl, fun e => ?_, fun d hd => ?_⟩⟩
          · have := k2 rfl
            rw [e] at c3
            simp at c3
            omega
          · obtain ⟨i, hi, rfl⟩ := List.mem_iff_getElem.1 hd
            exact h4 i hi
      · exact ⟨false, by rw [run_iteT (by simpa using c3), run_ret], fun h => by cases h⟩

theorem DskOK.gdk {d : Dsk} (h : DskOK d) (hs : SmD d) : GDk d := ⟨hs, h.sortI, h.namesS⟩

theorem e_known12 : f_law12_known = some true := by
  let r : Nod := Nod.mk 1 2 493 1 (Fil.mk 0 []) [] []
  let d : Dsk := Dsk.mk 5 5 2 [r]
  have hn : f_r3_New 5 5 = some d := by
    simp only [f_r3_New, t_r3_New]; rw [run_ret]
  have hsm : SmD d := ⟨by simp [d, SM], fun n hn => by simp [d] at hn; subst hn; exact ⟨by simp [r, SM], by simp [r, SM], by simp [r]⟩⟩
  have hg : GDk d := ⟨hsm, fun i j hij hj => by simp [d] at hj; omega, fun ino => by
    unfold getN
    split
    · rename_i n hn
      have := List.mem_of_find?_eq_some hn
      simp [d] at this
      subst this
      intro i j hij hj; simp [r] at hj
    · intro i j hij hj; simp at hj⟩
  have gw : GW (Wld.mk (Cnf.mk [1, 2] 1) [d, d] (Tbl.mk 0 [] [] 0)) := ⟨by simp, fun x hx => by simp at hx; subst hx; exact hg⟩
  have hf := e_walk_Find gw (by simp) [] (by simp) (fun x hx => by simp at hx)
  have e1 : findW (Wld.mk (Cnf.mk [1, 2] 1) [d, d] (Tbl.mk 0 [] [] 0)) [] = ([⟨0, 1⟩, ⟨1, 1⟩], 1, 0) := rfl
  rw [e1] at hf
  have h1 := e_walk_IsDir gw (s := ⟨0, 1⟩) ⟨by decide, by simp⟩
  have h2 := e_walk_Node gw (s := ⟨1, 1⟩) ⟨by decide, by simp⟩
  simp only [f_law12_known, t_law12_known]
  rw [run_bind hn, run_bind hf, run_iteT (by rfl), run_iteT (by rfl), run_iteT (by rfl), run_req (by decide)]
  refine (run_bind h1).trans ?_
  rw [run_iteT (by rfl), run_req (by decide)]
  exact (run_bind h2).trans rfl

theorem ndW_fil {w : Wld} (hs : SmW w) (hok : ∀ d ∈ w.disks, DskOK d) {s : Spt} (hin : InW w s) : FilOK (ndW w s).file := by
  unfold ndW dkW
  rw [getD_at (show s.branch.toNat < w.disks.length by have := hin.1; have := hin.2; omega)]
  exact getN_fil (hs.disk _ (List.getElem_mem _)).1 (hok _ (List.getElem_mem _)) _

theorem law_WalkFinds {w : Wld} (hs : SmW w) (l : List Str) (hn : ∀ x ∈ l, x.length ≤ SM) : f_law12_WalkFinds w l = some true := by
  obtain ⟨b, hb, hok⟩ := e_such hs
  simp only [f_law12_WalkFinds, t_law12_WalkFinds]
  rw [run_bind hb]
  cases b with
  | false => rw [run_iteT (by rfl), run_ret]
  | true =>
    obtain ⟨k1, k2, k3⟩ := hok rfl
    have gw : GW w := ⟨k1, fun d hd => (k3 d hd).gdk (hs.disk d hd).1⟩
    rw [run_iteF (by rfl)]
    by_cases c1 : (l.length : Int) > 12
    · rw [run_iteT (by simpa using c1), run_ret]
    have hl : l.length ≤ SM := by unfold SM; omega
    have hsl : (findW w l).1.length ≤ SM := by
      by_cases e : (findW w l).2.2 = 0
      · have := (findW_ok gw k2 e).len; unfold SM; omega
      · have : (findW w l).1 = [] := by
          unfold findW at e ⊢
          have : ∀ (l : List Str) (s : List Spt) (lim : Int), (goW w l s lim).2.2 ≠ 0 → (goW w l s lim).1 = [] := by
            intro l
            induction l with
            | nil => intro s lim h; exact absurd rfl h
            | cons x r ih =>
              intro s lim h
              unfold goW at h ⊢
              split
              · rename_i c
                rw [if_pos c] at h
                split
                · rfl
                · rename_i c2
                  rw [if_neg c2] at h
                  exact ih _ _ h
              · rfl
          exact this _ _ _ e
        rw [this]; simp
    rw [run_iteF (by simpa using c1), run_bind (e_walk_Find gw k2 l hl hn), run_bind (e_r12_Find gw k2 l hl hn), run_iteF (by simp), run_iteF (by simp), run_bind (e_r11_Spots hsl), run_iteF (by rfl)]
    have hL : L_law12_WalkFinds_l0 (l, w, (findW w l).1, 0) = some (.inr (l, w)) := by
      by_cases e : (findW w l).1 = []
      · rw [e]
        refine fixT_out ?_
        simp only [tl_law12_WalkFinds_l0]
        rw [run_iteF (by simp), run_ret]
      · have hall : ∀ x ∈ (findW w l).1, InW w x := by
          have : ∀ (l : List Str) (s : List Spt) (lim : Int), (∀ x ∈ s, InW w x) → ∀ x ∈ (goW w l s lim).1, InW w x := by
            intro l
            induction l with
            | nil => intro s lim h; exact h
            | cons x r ih =>
              intro s lim h
              unfold goW
              split
              · split
                · intro x hx; simp at hx
                · exact ih _ _ (lookW_in h (acc := []) (fun s hs => by simp at hs)).1
              · intro x hx; simp at hx
          exact this _ _ _ (rootsW_in w)
        refine loop_to (fun i => (l, w, (findW w l).1, (i : Int))) (findW w l).1.length (fun i hi => ?_) ?_
        · have hw := wrS (i := i) (by unfold SM at hsl; omega)
          have hin := hall _ (List.getElem_mem hi)
          simp only [tl_law12_WalkFinds_l0]
          rw [run_iteT (by simp; omega), run_req (inb hi)]
          simp only [getD_int hi]
          rw [run_bind (e_walk_IsDir gw hin), run_req (inb hi), run_bind (e_r12_IsDir gw hin), run_iteF (by simp), run_req (inb hi), run_bind (e_walk_Node gw hin), run_req (inb hi), run_bind (e_r12_Node gw hin), run_bind (e_r3_Nodes (ndW_fil hs k3 hin) (gw.sm hin)), run_iteF (by rfl), run_ret, hw]
        · simp only [tl_law12_WalkFinds_l0]
          rw [run_iteF (by simp), run_ret]
    rw [run_bind hL, run_caseR]
    dsimp only
    by_cases c2 : l = []
    · rw [run_iteT (by rw [c2]; rfl), run_bind e_known12, run_ret]
    · have hul : (upW w l).1.length ≤ SM := by
        unfold upW
        split
        · rename_i e
          split
          · have := (findW_ok gw k2 e).len; show (findW w _).1.length ≤ SM; unfold SM; omega
          · simp
        · simp
      rw [run_iteF (by simpa using c2), run_bind (e_walk_Up gw k2 l hl hn c2), run_bind (e_r12_Up gw k2 l hl hn c2), run_iteT (by simp), run_iteT (by simp), run_iteT (by simp), run_bind (e_r11_Spots hul), run_iteT (by rfl), run_bind e_known12, run_ret]

theorem smW_of_w {w : Wld} {n : Nat} (h : wWld w ≤ n) (hn : n ≤ SM) : SmW w := by
  unfold wWld wCnf at h
  have h1 : w.conf.ways.length < wL wI w.conf.ways := len_le fun x => by unfold wI; omega
  have h2 : w.disks.length < wL wDsk w.disks := len_le fun x => by unfold wDsk; omega
  refine ⟨by omega, by omega, fun d hd => ?_⟩
  have h3 := w_mem (w := wDsk) hd
  obtain ⟨a, b, _⟩ := sm_of_w (d := d) (n := n) (by omega) hn
  exact ⟨a, b⟩

theorem lawW_WalkFinds (w : Wld) (l : List Str) (h : wWld w + (wL wS l + 0) ≤ 1048576) : f_law12_WalkFinds w l = some true := by
  refine law_WalkFinds (smW_of_w (n := 1048576) (by omega) (by unfold SM; omega)) l fun x hx => ?_
  have h3 := w_mem (w := wS) hx
  unfold wS at h3 h
  unfold SM; omega

end Go.Proofs.Ytjichafmpanegaa.VS
