/- Arguments that read as data, told as the machine's values, with what their bulk bounds. Conditions: none. -/
import Derived.Test.YtmkmjjodiicmlaaVM13
import Derived.Test.YtmkmjjodiicmlaaRows
namespace Go.Proofs.Ytmkmjjodiicmlaa.VS
open Go.ChangeShapes

/-! ### Weights -/

def wI (_ : Int) : Nat := 1
def wB (_ : UInt8) : Nat := 1
def wS (s : Str) : Nat := s.length + 1
def wL {α : Type} (w : α → Nat) (l : List α) : Nat := (l.map w).sum + 1
def wNam (x : Nam) : Nat := wS x.name + (wI x.ino + 0) + 1
def wBlk (x : Blk) : Nat := wI x.pos + (wL wB x.data + 0) + 1
def wFil (x : Fil) : Nat := wI x.size + (wL wBlk x.blocks + 0) + 1
def wNod (x : Nod) : Nat := wI x.ino + (wI x.kind + (wI x.mode + (wI x.links + (wFil x.file + (wS x.target + (wL wNam x.names + 0)))))) + 1
def wDsk (x : Dsk) : Nat := wI x.blocks + (wI x.inodes + (wI x.next + (wL wNod x.nodes + 0))) + 1
def wSpt (x : Spt) : Nat := wI x.branch + (wI x.ino + 0) + 1
def wRwo (x : Rwo) : Nat := wSpt x.spot + (wI x.u + 0) + 1
def wTbl (x : Tbl) : Nat := wI x.next + (wL wRwo x.rows + (wL wRwo x.homes + (wI x.cursor + 0))) + 1
def wCnf (x : Cnf) : Nat := wL wI x.ways + (wI x.policy + 0) + 1
def wWld (x : Wld) : Nat := wCnf x.conf + (wL wDsk x.disks + (wTbl x.table + 0)) + 1
def wAkt (x : Akt) : Nat := wI x.kind + (wI x.pos + (wL wB x.b + 0)) + 1

theorem w_mem {α : Type} {w : α → Nat} {l : List α} {x : α} (h : x ∈ l) : w x < wL w l := by
  unfold wL
  induction l with
  | nil => cases h
  | cons a l ih =>
    rw [List.map_cons, List.sum_cons]
    rcases List.mem_cons.1 h with rfl | h
    · omega
    · have := ih h; omega
theorem w_len {α : Type} {w : α → Nat} {l : List α} (hw : ∀ x ∈ l, 1 ≤ w x) : l.length < wL w l := by
  unfold wL
  induction l with
  | nil => simp
  | cons a l ih =>
    have := ih fun x hx => hw x (List.mem_cons_of_mem _ hx)
    have := hw a List.mem_cons_self
    rw [List.map_cons, List.sum_cons, List.length_cons]; omega

section
variable {H : Type}
theorem bulk_le {α : Type} {w : α → Nat} : ∀ {ys : List α} {D : Nat → DataW H}, (∀ i y, ys[i]? = some y → w y ≤ Rows.uptoBulk (D i)) → (ys.map w).sum ≤ Rows.uptoBulkAll ((List.range ys.length).map D)
  | [], D, _ => Nat.zero_le _
  | y :: ys, D, h => by
    have h0 := h 0 y rfl
    have h1 := bulk_le (ys := ys) (D := fun i => D (i + 1)) fun i z hz => h (i + 1) z (by simpa using hz)
    rw [List.length_cons, List.range_succ_eq_map, List.map_cons, List.map_cons, List.sum_cons, List.map_map, Rows.uptoBulkAll]
    exact Nat.add_le_add h0 h1
end

variable [Syms]

section
variable {H : Type} {enc : TypeId × Value → H} {P : Program} {W : World} {sp : Nat → Bool}

/-- A type whose values read so; their weight is at most their bulk. -/
structure RdW {H : Type} (enc : TypeId × Value → H) (P : Program) (W : World) (sp : Nat → Bool) {α : Type} (n : Nat) (ec : α → List AV) (w : α → Nat) (t : TypeId) : Prop where
  cells : P.cellsOf t = n
  rd : ∀ (fuel : Nat) (cs : List Value) (x : DataW H × List MemPlace), DataW.trod enc P W 0 sp true fuel t cs = some x → cs.length = n ∧ ∃ y, (ec y).length = n ∧ CR (fun _ => True) W.heap noMap (ec y) cs.toArray 0 ∧ w y ≤ Rows.uptoBulk x.1

theorem rw_int {t : TypeId} {k : IntKind} (ht : P.underlying t = some (.int k)) (hc : P.cellsOf t = 1) : RdW enc P W sp 1 (fun n : Int => [.int k n]) wI t := by
  refine ⟨hc, fun fuel cs x h => ?_⟩
  cases fuel with
  | zero => simp [DataW.trod] at h
  | succ fuel =>
    have : ∃ n, cs = [.int k n] ∧ 1 ≤ Rows.uptoBulk x.1 := by
      unfold DataW.trod at h
      rw [ht] at h
      split at h
      all_goals first
        | (simp_all; done)
        | (refine ⟨_, rfl, ?_⟩; simp at h; obtain ⟨_, rfl⟩ := h; simp [Rows.uptoBulk])
        | (simp at h; obtain ⟨_, _, rfl⟩ := h; refine ⟨_, by simp_all; rfl, ?_⟩; simp [Rows.uptoBulk])
    obtain ⟨n, rfl, hw⟩ := this
    exact ⟨rfl, n, rfl, cr_single (.int _ _), hw⟩

theorem rw_str {t : TypeId} (ht : P.underlying t = some .string) (hc : P.cellsOf t = 1) : RdW enc P W sp 1 (fun s : Str => [.str s]) wS t := by
  refine ⟨hc, fun fuel cs x h => ?_⟩
  cases fuel with
  | zero => simp [DataW.trod] at h
  | succ fuel =>
    have : ∃ s : ByteArray, cs = [.string s] ∧ s.data.toList.length + 1 ≤ Rows.uptoBulk x.1 := by
      unfold DataW.trod at h
      rw [ht] at h
      split at h
      all_goals first
        | (simp_all; done)
        | (refine ⟨_, rfl, ?_⟩; simp at h; obtain ⟨_, rfl⟩ := h; simp [Rows.uptoBulk])
    obtain ⟨s, rfl, hs⟩ := this
    exact ⟨rfl, s.data.toList, rfl, cr_single (.str _ _ rfl), hs⟩

theorem rw_u8 {t : TypeId} (ht : P.underlying t = some (.int .u8)) (hc : P.cellsOf t = 1) : RdW enc P W sp 1 (fun b : UInt8 => [.int .u8 b.toNat]) wB t :=
  ⟨hc, fun fuel cs x h => by
    obtain ⟨h1, y, k1, k2, k3⟩ := (rd_u8 (enc := enc) (W := W) (sp := sp) ht hc).rd fuel cs x h
    obtain ⟨_, _, _, _, h5⟩ := (rw_int (enc := enc) (W := W) (sp := sp) ht hc).rd fuel cs x h
    exact ⟨h1, y, k1, k2, h5⟩⟩

theorem rw_slice {g : GT} {t e : TypeId} {w : g.T → Nat} (ht : P.underlying t = some (.slice e)) (hc : P.cellsOf t = 1) (he : RdW enc P W sp g.size (fun x : g.T => (Go.Proofs.Ytmkmjjodiicmlaa.VS.enc g x).cells) w e) :
    RdW enc P W sp 1 (fun l : List g.T => [.tl g l]) (wL w) t := by
  refine ⟨hc, fun fuel cs x h => ?_⟩
  rcases Go.Deep.open_slice ht h with ⟨rfl, hx0⟩ | ⟨a, len, cap, m, n, D, Pl, rfl, _, h2, h3, h4, hx0, h6⟩
  · exact ⟨rfl, [], rfl, cr_single (.tl (.slE fun _ => rfl)), by rw [hx0]; simp [wL, Rows.uptoBulk]⟩
  · have hm : len ≤ m := by rw [h4]; split <;> omega
    have hall : ∀ i, i < len → ∃ y : g.T, (∃ cs', W.cells? 0 (a.add (i * g.size)) g.size = some cs' ∧ CR (fun _ => True) W.heap noMap (Go.Proofs.Ytmkmjjodiicmlaa.VS.enc g y).cells cs'.toArray 0) ∧ w y ≤ Rows.uptoBulk (D i) := by
      intro i hi
      obtain ⟨cs', k1, k2⟩ := h6 i (by omega)
      obtain ⟨q1, y, q2, q3, q4⟩ := he.rd _ _ _ k2
      rw [he.cells] at k1
      exact ⟨y, ⟨cs', k1, q3⟩, q4⟩
    obtain ⟨ys, r1, r2⟩ := row_of len hall
    refine ⟨rfl, ys, rfl, cr_single (.tl ?_), ?_⟩
    · by_cases h0 : len = 0
      · subst h0
        obtain rfl : ys = [] := List.length_eq_zero_iff.1 r1
        exact .slE nofun
      · have hpos := g.size_pos
        have cell : ∀ i y, ys[i]? = some y → ∀ j b, (Go.Proofs.Ytmkmjjodiicmlaa.VS.enc g y).cells[j]? = some b → ∃ v, W.cell? ((a.add (i * g.size)).add j) = some v ∧ VR (fun _ => True) W.heap noMap b v := by
          intro i y hy j b hb
          obtain ⟨⟨cs', q1, q2⟩, _⟩ := r2 i y hy
          obtain ⟨v, hv, hr⟩ := q2 j b hb
          obtain ⟨_, q4⟩ := cells?_some q1
          exact ⟨v, q4 j v (by simpa using hv), hr⟩
        have hy0 : ys[0]? = some (ys[0]'(by omega)) := List.getElem?_eq_getElem _
        have hlen0 := enc_size g (ys[0]'(by omega))
        obtain ⟨v0, hv0, _⟩ := cell 0 _ hy0 0 _ (List.getElem?_eq_getElem (by rw [hlen0]; exact hpos))
        rw [Nat.zero_mul] at hv0
        have ha0 : (a.add 0).add 0 = a := rfl
        rw [ha0] at hv0
        unfold World.cell? at hv0
        split at hv0
        · rename_i C e' z hC
          split at hv0
          · cases hv0
          · rename_i hspot
            obtain ⟨β, o, spot⟩ := a
            have : spot = none := by cases spot <;> simp_all
            subst this
            have hcellC : ∀ j, W.cell? ⟨β, j, none⟩ = C[j]? := fun j => by unfold World.cell?; rw [show W.heap[(⟨β, j, none⟩ : Addr).block]? = some (.cells C e' z) from hC]; rfl
            have hcr : CR (fun _ => True) W.heap noMap (flat (encs g ys)) C o := by
              intro j b hb
              have hfl := flat_length (encs_size g ys)
              rw [encs_length] at hfl
              have hj : j < ys.length * g.size := by rw [← hfl]; exact (List.getElem?_eq_some_iff.1 hb).1
              have hi : j / g.size < ys.length := (Nat.div_lt_iff_lt_mul hpos).2 hj
              have hr : j % g.size < g.size := Nat.mod_lt j hpos
              have hjd : j / g.size * g.size + j % g.size = j := Nat.div_add_mod' j g.size
              have hyi : ys[j / g.size]? = some (ys[j / g.size]'hi) := List.getElem?_eq_getElem hi
              have hei : (encs g ys)[j / g.size]? = some (Go.Proofs.Ytmkmjjodiicmlaa.VS.enc g (ys[j / g.size]'hi)) := by simp [encs, hyi]
              have := flat_getElem? (encs_size g ys) hei hr
              rw [hjd, hb] at this
              obtain ⟨v, hv, hvr⟩ := cell _ _ hyi _ _ this.symm
              rw [add_none, add_none, hcellC] at hv
              exact ⟨v, by rw [← hv]; congr 1; omega, hvr⟩
            exact .sl' (fun e0 => by have := congrArg List.length e0; rw [encs_length, List.length_nil] at this; omega) (by rw [encs_length, r1]) trivial hC hpos (encs_size g ys) h2 hcr
        · cases hv0
    · have := bulk_le (w := w) (ys := ys) (D := D) fun i y hy => (r2 i y hy).2
      rw [r1] at this
      rw [hx0]
      simp only [wL, Rows.uptoBulk]
      omega

/-- Fields by their places and types. -/
def RwF {H : Type} (enc : TypeId × Value → H) (P : Program) (W : World) (sp : Nat → Bool) {α : Type} (off n : Nat) (ec : α → List AV) (w : α → Nat) (l : List (Nat × TypeId)) : Prop :=
  ∀ (fs : List Field), fs.map (fun f => (f.offset, f.type)) = l → ∀ (fuel : Nat) (cs : List Value) (xs : List (DataW H × List MemPlace)), xs.length = fs.length → (∀ (i : Nat) (f : Field), fs[i]? = some f → DataW.trod enc P W 0 sp true fuel f.type ((cs.drop f.offset).take (P.cellsOf f.type)) = xs[i]?) →
    ∃ y, (ec y).length = n ∧ CR (fun _ => True) W.heap noMap (ec y) cs.toArray off ∧ w y ≤ Rows.uptoBulkAll (xs.map (·.1))

theorem rwF_nil {off : Nat} : RwF enc P W sp off 0 (fun _ : Unit => []) (fun _ => 0) [] := fun fs h fuel cs xs _ _ => ⟨(), rfl, fun j x hx => by simp at hx, Nat.zero_le _⟩

theorem rwF_cons {α β : Type} {off n1 n2 : Nat} {e1 : α → List AV} {e2 : β → List AV} {w1 : α → Nat} {w2 : β → Nat} {t : TypeId} {l : List (Nat × TypeId)} (h1 : RdW enc P W sp n1 e1 w1 t) (h2 : RwF enc P W sp (off + n1) n2 e2 w2 l) :
    RwF enc P W sp off (n1 + n2) (fun y : α × β => e1 y.1 ++ e2 y.2) (fun y => w1 y.1 + w2 y.2) ((off, t) :: l) := by
  intro fs hfs fuel cs xs hlen h
  cases fs with
  | nil => cases hfs
  | cons f fs =>
    rw [List.map_cons] at hfs
    injection hfs with h3 h4
    injection h3 with h5 h6
    subst h6
    cases xs with
    | nil => simp at hlen
    | cons x xs =>
      have hx := h 0 f rfl
      obtain ⟨_, y1, k1, k2, k3⟩ := h1.rd _ _ _ hx
      obtain ⟨y2, q1, q2, q3⟩ := h2 fs h4 fuel cs xs (by simpa using hlen) fun i f' hf' => by have := h (i + 1) f' (by simpa using hf'); simpa using this
      refine ⟨(y1, y2), by simp [k1, q1], fun j b hb => ?_, by rw [List.map_cons, Rows.uptoBulkAll]; exact Nat.add_le_add k3 q3⟩
      rcases Nat.lt_or_ge j (e1 y1).length with hj | hj
      · rw [List.getElem?_append_left hj] at hb
        obtain ⟨v, hv, hr⟩ := k2 j b hb
        refine ⟨v, ?_, hr⟩
        rw [Nat.zero_add, List.getElem?_toArray, h1.cells, h5, List.getElem?_take, if_pos (by omega), List.getElem?_drop] at hv
        rw [List.getElem?_toArray]; exact hv
      · rw [List.getElem?_append_right hj] at hb
        obtain ⟨v, hv, hr⟩ := q2 _ b hb
        exact ⟨v, by rw [← hv]; congr 1; omega, hr⟩

theorem rw_fields {α : Type} {n : Nat} {ec : α → List AV} {w : α → Nat} {t : TypeId} {l : List (Nat × TypeId)} (ht : fieldsOf P t = some l) (hc : P.cellsOf t = n) (h : RwF enc P W sp 0 n ec w l) : RdW enc P W sp n ec (fun y => w y + 1) t := by
  refine ⟨hc, fun fuel cs x hx => ?_⟩
  obtain ⟨fs, hf1, hf2⟩ := fieldsOf_some ht
  obtain ⟨xs, m, rfl, rfl, h3, h4, h5⟩ := DataW.trod_struct hf1 hx
  obtain ⟨y, k1, k2, k3⟩ := h fs.toList hf2 m cs xs (by simpa using h4) fun i f hf => h5 i f (by rw [← Array.getElem?_toList]; exact hf)
  exact ⟨by rw [h3, hc], y, k1, k2, by simp only [Rows.uptoBulk]; omega⟩

theorem RdW.map {α β : Type} {n : Nat} {ec : α → List AV} {w : α → Nat} {t : TypeId} (h : RdW enc P W sp n ec w t) (f : α → β) {ec' : β → List AV} {w' : β → Nat} (h1 : ∀ a, ec' (f a) = ec a) (h2 : ∀ a, w' (f a) ≤ w a) : RdW enc P W sp n ec' w' t :=
  ⟨h.cells, fun fuel cs x hx => by
    obtain ⟨k1, y, k2, k3, k4⟩ := h.rd fuel cs x hx
    exact ⟨k1, f y, by rw [h1]; exact k2, by rw [h1]; exact k3, Nat.le_trans (h2 y) k4⟩⟩

/-- A struct argument. -/
theorem rw_arg {base : Nat} {α : Type} {n : Nat} {ec : α → List AV} {w : α → Nat} {t : TypeId} {l : List (Nat × TypeId)} (ht : fieldsOf P t = some l) (h : RdW enc P W sp n ec w t) {v : Value} {d : DataW H} {ps : List MemPlace} (hv : DataW.Trod enc P W 0 sp true t v d ps) (hok : Value.okWide P W .any base t v) :
    ∃ y, VR (fun _ => True) W.heap noMap (.agg (ec y)) v ∧ w y ≤ Rows.uptoBulk d := by
  obtain ⟨fs, h1, _⟩ := fieldsOf_some ht
  obtain ⟨cs, rfl, hs⟩ := agg_of hok h1
  obtain ⟨fuel, hx⟩ := hv
  obtain ⟨k1, y, k2, k3, k4⟩ := h.rd fuel _ _ hx
  have k3 : CR (fun _ => True) W.heap noMap (ec y) cs 0 := by simpa [Value.cells] using k3
  exact ⟨y, .agg' (by rw [k2, hs, h.cells]) k3, k4⟩

/-- An argument of one cell. -/
theorem rw_one {α : Type} {ec : α → AV} {w : α → Nat} {t : TypeId} (h : RdW enc P W sp 1 (fun a => [ec a]) w t) {v : Value} {d : DataW H} {ps : List MemPlace} (hv : DataW.Trod enc P W 0 sp true t v d ps) (hok : v.cells = #[v]) :
    ∃ y, VR (fun _ => True) W.heap noMap (ec y) v ∧ w y ≤ Rows.uptoBulk d := by
  obtain ⟨fuel, hx⟩ := hv
  rw [hok] at hx
  obtain ⟨k1, y, k2, k3, k4⟩ := h.rd fuel _ _ hx
  obtain ⟨u, hu, hr⟩ := k3 0 (ec y) rfl
  simp at hu; subst hu
  exact ⟨y, hr, k4⟩

/-! ### The program's structs -/

theorem rw_nam {t ts ti : TypeId} (ht : fieldsOf P t = some [(0, ts), (1, ti)]) (hc : P.cellsOf t = 2) (h1 : RdW enc P W sp 1 (fun s : Str => [.str s]) wS ts) (h2 : RdW enc P W sp 1 (fun n : Int => [.int .i64 n]) wI ti) :
    RdW enc P W sp 2 (SC.cs .nam) wNam t :=
  (rw_fields ht hc (rwF_cons h1 (rwF_cons h2 rwF_nil))).map (fun y => (⟨y.1, y.2.1⟩ : Nam)) (fun _ => rfl) (fun _ => Nat.le_refl _)
theorem rw_blk {t ti tb : TypeId} (ht : fieldsOf P t = some [(0, ti), (1, tb)]) (hc : P.cellsOf t = 2) (h1 : RdW enc P W sp 1 (fun n : Int => [.int .i64 n]) wI ti) (h2 : RdW enc P W sp 1 (fun l : List UInt8 => [.tl .u8 l]) (wL wB) tb) :
    RdW enc P W sp 2 (SC.cs .blk) wBlk t :=
  (rw_fields ht hc (rwF_cons h1 (rwF_cons h2 rwF_nil))).map (fun y => (⟨y.1, y.2.1⟩ : Blk)) (fun _ => rfl) (fun _ => Nat.le_refl _)
theorem rw_fil {t ti tb : TypeId} (ht : fieldsOf P t = some [(0, ti), (1, tb)]) (hc : P.cellsOf t = 2) (h1 : RdW enc P W sp 1 (fun n : Int => [.int .i64 n]) wI ti) (h2 : RdW enc P W sp 1 (fun l : List Blk => [.tl .blk l]) (wL wBlk) tb) :
    RdW enc P W sp 2 (SC.cs .fil) wFil t :=
  (rw_fields ht hc (rwF_cons h1 (rwF_cons h2 rwF_nil))).map (fun y => (⟨y.1, y.2.1⟩ : Fil)) (fun _ => rfl) (fun _ => Nat.le_refl _)
theorem rw_nod {t ti tl tf ts tn : TypeId} (ht : fieldsOf P t = some [(0, ti), (1, tl), (2, tl), (3, tl), (4, tf), (6, ts), (7, tn)]) (hc : P.cellsOf t = 8) (h1 : RdW enc P W sp 1 (fun n : Int => [.int .i64 n]) wI ti) (h2 : RdW enc P W sp 1 (fun n : Int => [.int .i64 n]) wI tl) (h3 : RdW enc P W sp 2 (SC.cs .fil) wFil tf)
    (h4 : RdW enc P W sp 1 (fun s : Str => [.str s]) wS ts) (h5 : RdW enc P W sp 1 (fun l : List Nam => [.tl .nam l]) (wL wNam) tn) : RdW enc P W sp 8 (SC.cs .nod) wNod t :=
  (rw_fields ht hc (rwF_cons h1 (rwF_cons h2 (rwF_cons h2 (rwF_cons h2 (rwF_cons h3 (rwF_cons h4 (rwF_cons h5 rwF_nil)))))))).map (fun y => (⟨y.1, y.2.1, y.2.2.1, y.2.2.2.1, y.2.2.2.2.1, y.2.2.2.2.2.1, y.2.2.2.2.2.2.1⟩ : Nod)) (fun _ => rfl) (fun _ => Nat.le_refl _)
theorem rw_dsk {t ti tl tn : TypeId} (ht : fieldsOf P t = some [(0, tl), (1, tl), (2, ti), (3, tn)]) (hc : P.cellsOf t = 4) (h1 : RdW enc P W sp 1 (fun n : Int => [.int .i64 n]) wI ti) (h2 : RdW enc P W sp 1 (fun n : Int => [.int .i64 n]) wI tl) (h3 : RdW enc P W sp 1 (fun l : List Nod => [.tl .nod l]) (wL wNod) tn) :
    RdW enc P W sp 4 (SC.cs .dsk) wDsk t :=
  (rw_fields ht hc (rwF_cons h2 (rwF_cons h2 (rwF_cons h1 (rwF_cons h3 rwF_nil))))).map (fun y => (⟨y.1, y.2.1, y.2.2.1, y.2.2.2.1⟩ : Dsk)) (fun _ => rfl) (fun _ => Nat.le_refl _)

theorem rw_spt {t tb ti : TypeId} (ht : fieldsOf P t = some [(0, tb), (1, ti)]) (hc : P.cellsOf t = 2) (h1 : RdW enc P W sp 1 (fun n : Int => [.int .i64 n]) wI tb) (h2 : RdW enc P W sp 1 (fun n : Int => [.int .i64 n]) wI ti) : RdW enc P W sp 2 (SC.cs .spt) wSpt t :=
  (rw_fields ht hc (rwF_cons h1 (rwF_cons h2 rwF_nil))).map (fun y => (⟨y.1, y.2.1⟩ : Spt)) (fun _ => rfl) (fun _ => Nat.le_refl _)
theorem rw_row {t ts tu : TypeId} (ht : fieldsOf P t = some [(0, ts), (2, tu)]) (hc : P.cellsOf t = 3) (h1 : RdW enc P W sp 2 (SC.cs .spt) wSpt ts) (h2 : RdW enc P W sp 1 (fun n : Int => [.int .i64 n]) wI tu) : RdW enc P W sp 3 (SC.cs .row) wRwo t :=
  (rw_fields ht hc (rwF_cons h1 (rwF_cons h2 rwF_nil))).map (fun y => (⟨y.1, y.2.1⟩ : Rwo)) (fun _ => rfl) (fun _ => Nat.le_refl _)
theorem rw_tbl {t tn tr tc : TypeId} (ht : fieldsOf P t = some [(0, tn), (1, tr), (2, tr), (3, tc)]) (hc : P.cellsOf t = 4) (h1 : RdW enc P W sp 1 (fun n : Int => [.int .i64 n]) wI tn) (h2 : RdW enc P W sp 1 (fun l : List Rwo => [.tl .row l]) (wL wRwo) tr) (h3 : RdW enc P W sp 1 (fun n : Int => [.int .i64 n]) wI tc) :
    RdW enc P W sp 4 (SC.cs .tbl) wTbl t :=
  (rw_fields ht hc (rwF_cons h1 (rwF_cons h2 (rwF_cons h2 (rwF_cons h3 rwF_nil))))).map (fun y => (⟨y.1, y.2.1, y.2.2.1, y.2.2.2.1⟩ : Tbl)) (fun _ => rfl) (fun _ => Nat.le_refl _)
theorem rw_cnf {t tw ti : TypeId} (ht : fieldsOf P t = some [(0, tw), (1, ti)]) (hc : P.cellsOf t = 2) (h1 : RdW enc P W sp 1 (fun l : List Int => [.tl .int l]) (wL wI) tw) (h2 : RdW enc P W sp 1 (fun n : Int => [.int .i64 n]) wI ti) : RdW enc P W sp 2 (SC.cs .cnf) wCnf t :=
  (rw_fields ht hc (rwF_cons h1 (rwF_cons h2 rwF_nil))).map (fun y => (⟨y.1, y.2.1⟩ : Cnf)) (fun _ => rfl) (fun _ => Nat.le_refl _)
theorem rw_wld {t tc td tt : TypeId} (ht : fieldsOf P t = some [(0, tc), (2, td), (3, tt)]) (hc : P.cellsOf t = 7) (h1 : RdW enc P W sp 2 (SC.cs .cnf) wCnf tc) (h2 : RdW enc P W sp 1 (fun l : List Dsk => [.tl .dsk l]) (wL wDsk) td) (h3 : RdW enc P W sp 4 (SC.cs .tbl) wTbl tt) : RdW enc P W sp 7 (SC.cs .wld) wWld t :=
  (rw_fields ht hc (rwF_cons h1 (rwF_cons h2 (rwF_cons h3 rwF_nil)))).map (fun y => (⟨y.1, y.2.1, y.2.2.1⟩ : Wld)) (fun _ => rfl) (fun _ => Nat.le_refl _)
theorem rw_akt {t ti tj tb : TypeId} (ht : fieldsOf P t = some [(0, ti), (1, tj), (2, tb)]) (hc : P.cellsOf t = 3) (h1 : RdW enc P W sp 1 (fun n : Int => [.int .i64 n]) wI ti) (h2 : RdW enc P W sp 1 (fun n : Int => [.int .i64 n]) wI tj) (h3 : RdW enc P W sp 1 (fun l : List UInt8 => [.tl .u8 l]) (wL wB) tb) : RdW enc P W sp 3 (SC.cs .akt) wAkt t :=
  (rw_fields ht hc (rwF_cons h1 (rwF_cons h2 (rwF_cons h3 rwF_nil)))).map (fun y => (⟨y.1, y.2.1, y.2.2.1⟩ : Akt)) (fun _ => rfl) (fun _ => Nat.le_refl _)

def wBo (_ : Bool) : Nat := 1
theorem rw_bool {t : TypeId} (ht : P.underlying t = some .bool) (hc : P.cellsOf t = 1) : RdW enc P W sp 1 (fun b : Bool => [.ub b]) wBo t := by
  refine ⟨hc, fun fuel cs x h => ?_⟩
  obtain ⟨k1, y, k2, k3, _⟩ := (rd_bool (enc := enc) (W := W) (sp := sp) ht hc).rd fuel cs x h
  exact ⟨k1, y, k2, k3, by
    have : ∀ d : DataW H, 1 ≤ Rows.uptoBulk d := fun d => by
      cases d with
      | lit l => cases l <;> simp [Rows.uptoBulk]
      | nil => simp [Rows.uptoBulk]
      | ptr d => simp [Rows.uptoBulk]
      | slice elems spare => simp [Rows.uptoBulk]
      | agg parts => simp [Rows.uptoBulk]
      | iface t d => simp [Rows.uptoBulk]
      | map entries => simp [Rows.uptoBulk]
      | held h => simp [Rows.uptoBulk]
    exact this _⟩

omit [Syms] in
theorem one_cellsI {base : Nat} {t : TypeId} {k : IntKind} (ht : P.underlying t = some (.int k)) {v : Value} (h : Value.okWide P W .any base t v) : v.cells = #[v] := by
  unfold Value.okWide at h
  rw [ht] at h
  cases v with
  | agg cs =>
    exfalso
    have h : Cell.okWide P W .any base t (.agg cs) := h
    unfold Cell.okWide at h
    rw [ht] at h
    simp only at h
    unfold Cell.ok at h
    rw [ht] at h
    exact h
  | _ => rfl
omit [Syms] in
theorem one_cellsS {base : Nat} {t : TypeId} (ht : P.underlying t = some .string) {v : Value} (h : Value.okWide P W .any base t v) : v.cells = #[v] := by
  unfold Value.okWide at h
  rw [ht] at h
  cases v with
  | agg cs =>
    exfalso
    have h : Cell.okWide P W .any base t (.agg cs) := h
    unfold Cell.okWide at h
    rw [ht] at h
    simp only at h
    unfold Cell.ok at h
    rw [ht] at h
    exact h
  | _ => rfl
omit [Syms] in
theorem one_cellsB {base : Nat} {t : TypeId} (ht : P.underlying t = some .bool) {v : Value} (h : Value.okWide P W .any base t v) : v.cells = #[v] := by
  unfold Value.okWide at h
  rw [ht] at h
  cases v with
  | agg cs =>
    exfalso
    have h : Cell.okWide P W .any base t (.agg cs) := h
    unfold Cell.okWide at h
    rw [ht] at h
    simp only at h
    unfold Cell.ok at h
    rw [ht] at h
    exact h
  | _ => rfl

end
end Go.Proofs.Ytmkmjjodiicmlaa.VS
