/- Chapter 3: two disks, are they one? Conditions: none. -/
import Derived.Test.YtmkmjjodiicmlaaPE1
import Derived.Test.YtmkmjjodiicmlaaPW
namespace Go.Proofs.Ytmkmjjodiicmlaa.VS
set_option maxRecDepth 100000
set_option linter.unusedVariables false
set_option linter.unusedSimpArgs false

theorem e_heavy3 {d : Dsk} (hd : SmD d) : ∃ b, f_law3_heavy [d] = some b := by
  have hin : ∀ n : Int, ∃ r, L_law3_heavy_l0_0 ([d], n, 0, 0) = some r ∧ ∃ m : Int, r = ([d], m, 0) := by
    intro n
    refine loop_inv (fun i p => ∃ m : Int, p = ([d], m, 0, (i : Int))) (fun r => ∃ m : Int, r = ([d], m, 0)) d.nodes.length (fun i p hi hp => ?_) (fun p hp => ?_) ⟨n, rfl⟩
    · obtain ⟨m, rfl⟩ := hp
      have hw := wrS (i := i) (by have := hd.1; unfold SM at this; omega)
      simp only [tl_law3_heavy_l0_0]
      rw [run_req (by simp), run_iteT (by simp; omega)]
      by_cases c : (i : Int) < 200
      · exact .inl ⟨_, by rw [run_iteT (by simpa using c), run_req (by simp), run_req (by simp; omega), run_req (by simp), run_req (by simp; omega), run_ret, hw], _, rfl⟩
      · right
        exact ⟨_, by rw [run_iteF (by simpa using c), run_ret], _, rfl⟩
    · obtain ⟨m, rfl⟩ := hp
      simp only [tl_law3_heavy_l0_0]
      exact ⟨_, by rw [run_req (by simp), run_iteF (by simp), run_ret], _, rfl⟩
  obtain ⟨r, h1, m, rfl⟩ := hin 0
  have hl : ∃ m : Int, L_law3_heavy_l0 ([d], 0, 0) = some ([d], m) := by
    refine ⟨m, ?_⟩
    have h0 : (tl_law3_heavy_l0 [d] 0 0).run = some (.inl ([d], m, 1)) := by
      simp only [tl_law3_heavy_l0]
      rw [run_iteT (by simp), run_iteT (by decide), run_bind h1, run_ret]
      rfl
    refine (fixT_next (q := ([d], m, 1)) h0).trans (fixT_out ?_)
    simp only [tl_law3_heavy_l0]
    rw [run_iteF (by simp), run_ret]
  obtain ⟨m, hm⟩ := hl
  simp only [f_law3_heavy, t_law3_heavy]
  rw [run_bind hm, run_iteF (by simp), run_ret]
  exact ⟨_, rfl⟩

/-! ### Files -/

def sizeN (f : Fil) : Nat := f.size.toNat
def bytesF (f : Fil) : List UInt8 := readL f.blocks 0 (sizeN f)
def sameF (a b : Fil) : Bool := a.size == b.size && bytesF a == bytesF b

theorem sameF_refl (a : Fil) : sameF a a = true := by simp [sameF]

theorem FilOK.rd {f : Fil} (h : FilOK f) (hl : f.blocks.length ≤ SM) : f_sparse_Read f 0 f.size = some (bytesF f) ∧ f_r2_Read f 0 f.size = some (bytesF f) := by
  have h0 := h.lo
  have h1 := h.hi
  have hs : f.size = (sizeN f : Int) := by unfold sizeN; omega
  have e : min (0 + sizeN f) (sizeN f) - 0 = sizeN f := by omega
  have k1 := e_sparse_Read h.filS hl (sizeN f) 0 (sizeN f) hs (by omega) (by omega)
  have k2 := e_r2_Read h.filS hl (sizeN f) 0 (sizeN f) hs (by omega) (by omega)
  rw [e] at k1 k2
  rw [hs]
  exact ⟨k1, k2⟩

theorem e_sparse_Same {a b : Fil} (ha : FilOK a) (hb : FilOK b) (hla : a.blocks.length ≤ SM) (hlb : b.blocks.length ≤ SM) : f_sparse_Same a b = some (sameF a b) := by
  simp only [f_sparse_Same, t_sparse_Same]
  cases c : a.size == b.size with
  | true =>
    rw [run_iteT (by rfl), run_bind (ha.rd hla).1, run_bind (hb.rd hlb).1]
    have : f_bytes_Equal (bytesF a) (bytesF b) = some (bytesF a == bytesF b) := by simp only [f_bytes_Equal, t_bytes_Equal, run_ret]
    rw [run_bind this, run_ret]
    simp [sameF, c]
  | false =>
    rw [run_iteF (by rfl), run_ret]
    simp [sameF, c]

theorem e_r2_Same {a b : Fil} (ha : FilOK a) (hb : FilOK b) (hla : a.blocks.length ≤ SM) (hlb : b.blocks.length ≤ SM) : f_r2_Same a b = some (sameF a b) := by
  simp only [f_r2_Same, t_r2_Same]
  cases c : a.size == b.size with
  | true =>
    rw [run_iteT (by rfl), run_bind (ha.rd hla).2, run_bind (hb.rd hlb).2, run_ret]
    simp [sameF, c]
  | false =>
    rw [run_iteF (by rfl), run_ret]
    simp [sameF, c]

/-! ### Rows of names -/

theorem rows_eq {α : Type} {a b : List α} (hl : a.length = b.length) : (∀ i (h : i < a.length), a[i] = b[i]'(by omega)) ↔ a = b :=
  ⟨fun h => List.ext_getElem hl fun i h1 h2 => h i h1, fun h => by subst h; simp⟩

theorem nam_beq (x y : Nam) : (x.name == y.name && x.ino == y.ino) = decide (x = y) := by
  obtain ⟨a, b⟩ := x
  obtain ⟨c, d⟩ := y
  rw [Bool.eq_iff_iff]
  simp [Nam.mk.injEq]

theorem e_names {a b : List Nam} (hl : a.length ≤ SM) (hlb : b.length ≤ SM) : f_r3_names a b = some (decide (a = b)) ∧ f_slices_Equal_Name a b = some (decide (a = b)) := by
  by_cases hn : a.length = b.length
  case neg =>
    have hne : a ≠ b := fun e => hn (by rw [e])
    have hb : ((a.length : Int) != (b.length : Int)) = true := by simp; omega
    exact ⟨by simp only [f_r3_names, t_r3_names]; rw [run_iteT hb, run_ret]; simp [hne], by simp only [f_slices_Equal_Name, t_slices_Equal_Name]; rw [run_iteT hb, run_ret]; simp [hne]⟩
  have hb : ((a.length : Int) != (b.length : Int)) = false := by simp; omega
  have step : ∀ i (h : i < a.length), (!(((a.getD ((i : Int).toNat) GT.nam.nought).name == (b.getD ((i : Int).toNat) GT.nam.nought).name) && ((a.getD ((i : Int).toNat) GT.nam.nought).ino == (b.getD ((i : Int).toNat) GT.nam.nought).ino))) = !decide (a[i] = b[i]'(by omega)) := fun i h => by
    rw [getD_int h, getD_int (l := b) (by omega), nam_beq]
  constructor
  · simp only [f_r3_names, t_r3_names]
    rw [run_iteF hb]
    have key := loop_all (t := fun q : List Nam × (List Nam × Int) => tl_r3_names_l0 q.1 q.2.1 q.2.2) a.length (fun i => ∀ h : i < a.length, a[i] = b[i]'(by omega)) (fun i => (a, b, (i : Int))) (.inl false) (.inr ()) (fun i hi hbf => ?_) (fun hall => ?_)
    · rcases key with ⟨k1, k2⟩ | ⟨k1, k2⟩
      · have : a = b := (rows_eq hn).1 fun i h => k1 i h h
        have e : L_r3_names_l0 (a, b, 0) = some (.inr ()) := k2
        rw [run_bind e, run_caseR, run_ret]
        simp [this]
      · have : a ≠ b := fun e => k1 fun i h h' => (rows_eq hn).2 e i h'
        have e : L_r3_names_l0 (a, b, 0) = some (.inl false) := k2
        rw [run_bind e, run_caseL, run_ret]
        simp [this]
    · have hw := wrS (i := i) (by unfold SM at hl; omega)
      simp only [tl_r3_names_l0]
      rw [run_iteT (by simp; omega), run_req (inb hi), run_req (inb (by omega))]
      by_cases c : a[i] = b[i]'(by omega)
      · exact .inl ⟨fun _ => c, by rw [run_iteF (by rw [step i hi]; simp [c]), run_ret, hw]⟩
      · exact .inr ⟨fun h => c (h hi), by rw [run_iteT (by rw [step i hi]; simp [c]), run_ret]⟩
    · simp only [tl_r3_names_l0]
      rw [run_iteF (by simp), run_ret]
  · simp only [f_slices_Equal_Name, t_slices_Equal_Name]
    rw [run_iteF hb]
    have key := loop_all (t := fun q : List Nam × (List Nam × (Int × Int)) => tl_slices_Equal_Name_l0 q.1 q.2.1 q.2.2.1 q.2.2.2) a.length (fun i => ∀ h : i < a.length, a[i] = b[i]'(by omega)) (fun i => (a, b, (a.length : Int), (i : Int))) (.inl false) (.inr ()) (fun i hi hbf => ?_) (fun hall => ?_)
    · rcases key with ⟨k1, k2⟩ | ⟨k1, k2⟩
      · have : a = b := (rows_eq hn).1 fun i h => k1 i h h
        have e : L_slices_Equal_Name_l0 (a, b, (a.length : Int), 0) = some (.inr ()) := k2
        rw [run_bind e, run_caseR, run_ret]
        simp [this]
      · have : a ≠ b := fun e => k1 fun i h h' => (rows_eq hn).2 e i h'
        have e : L_slices_Equal_Name_l0 (a, b, (a.length : Int), 0) = some (.inl false) := k2
        rw [run_bind e, run_caseL, run_ret]
        simp [this]
    · have hw := wrS (i := i) (by unfold SM at hl; omega)
      simp only [tl_slices_Equal_Name_l0]
      rw [run_iteT (by simp; omega), run_req (inb hi), run_req (inb (by omega))]
      by_cases c : a[i] = b[i]'(by omega)
      · exact .inl ⟨fun _ => c, by rw [run_iteF (by rw [step i hi]; simp [c]), run_ret, hw]⟩
      · exact .inr ⟨fun h => c (h hi), by rw [run_iteT (by rw [step i hi]; simp [c]), run_ret]⟩
    · simp only [tl_slices_Equal_Name_l0]
      rw [run_iteF (by simp), run_ret]

/-! ### Nodes -/

def sameN (a b : Nod) : Bool := a.ino == b.ino && a.kind == b.kind && a.mode == b.mode && a.links == b.links && a.target == b.target && sameF a.file b.file && decide (a.names = b.names)

theorem sameN_refl (a : Nod) : sameN a a = true := by simp [sameN, sameF_refl]

theorem e_dnode {a b : Nod} (ha : FilOK a.file) (hb : FilOK b.file) (sa : SmN a) (sb : SmN b) : f_disk_sameNode a b = some (sameN a b) := by
  have h1 := e_sparse_Same ha hb sa.2.1 sb.2.1
  have h2 := e_r2_Same ha hb sa.2.1 sb.2.1
  obtain ⟨h3, h4⟩ := e_names sa.1 sb.1
  simp only [f_disk_sameNode, t_disk_sameNode, sameN]
  cases c0 : a.ino == b.ino with
  | false => rw [run_iteF (by rfl), run_ret]; simp
  | true =>
  rw [run_iteT (by rfl)]
  cases c1 : a.kind == b.kind with
  | false => rw [run_iteF (by rfl), run_ret]; simp
  | true =>
  rw [run_iteT (by rfl)]
  cases c2 : a.mode == b.mode with
  | false => rw [run_iteF (by rfl), run_ret]; simp
  | true =>
  rw [run_iteT (by rfl)]
  cases c3 : a.links == b.links with
  | false => rw [run_iteF (by rfl), run_ret]; simp
  | true =>
  rw [run_iteT (by rfl)]
  cases c4 : a.target == b.target with
  | false => rw [run_iteF (by rfl), run_ret]; simp
  | true =>
  rw [run_iteT (by rfl)]
  rw [run_bind h1]
  cases c6 : sameF a.file b.file with
  | false => rw [run_iteF (by rfl), run_ret]; simp
  | true => rw [run_iteT (by rfl), run_bind h4, run_ret]; simp

theorem e_rnode {a b : Nod} (ha : FilOK a.file) (hb : FilOK b.file) (sa : SmN a) (sb : SmN b) : f_r3_Nodes a b = some (sameN a b) := by
  have h1 := e_sparse_Same ha hb sa.2.1 sb.2.1
  have h2 := e_r2_Same ha hb sa.2.1 sb.2.1
  obtain ⟨h3, h4⟩ := e_names sa.1 sb.1
  simp only [f_r3_Nodes, t_r3_Nodes, sameN]
  cases c0 : a.ino == b.ino with
  | false => rw [run_iteF (by rfl), run_ret]; simp
  | true =>
  rw [run_iteT (by rfl)]
  cases c1 : a.kind == b.kind with
  | false => rw [run_iteF (by rfl), run_ret]; simp
  | true =>
  rw [run_iteT (by rfl)]
  cases c2 : a.mode == b.mode with
  | false => rw [run_iteF (by rfl), run_ret]; simp
  | true =>
  rw [run_iteT (by rfl)]
  cases c3 : a.links == b.links with
  | false => rw [run_iteF (by rfl), run_ret]; simp
  | true =>
  rw [run_iteT (by rfl)]
  cases c4 : a.target == b.target with
  | false => rw [run_iteF (by rfl), run_ret]; simp
  | true =>
  rw [run_iteT (by rfl)]
  rw [run_bind h3]
  by_cases c7 : a.names = b.names
  · rw [run_iteT (by simp [c7]), run_bind h2, run_ret]; simp [c7]
  · rw [run_iteF (by simp [c7]), run_ret]; simp [c7]

theorem e_nodes {a b : Nod} (ha : FilOK a.file) (hb : FilOK b.file) (sa : SmN a) (sb : SmN b) : f_disk_sameNode a b = some (sameN a b) ∧ f_r3_Nodes a b = some (sameN a b) :=
  ⟨e_dnode ha hb sa sb, e_rnode ha hb sa sb⟩

/-! ### Disks -/

structure Okd (d : Dsk) : Prop where
  sm : SmD d
  fil : ∀ n ∈ d.nodes, FilOK n.file

def sameL : List Nod → List Nod → Bool
  | [], [] => true
  | a :: l, b :: r => sameN a b && sameL l r
  | _, _ => false

theorem sameL_refl : ∀ l : List Nod, sameL l l = true
  | [] => rfl
  | a :: l => by simp [sameL, sameN_refl, sameL_refl l]

theorem sameL_iff : ∀ {a b : List Nod}, a.length = b.length → (sameL a b = true ↔ ∀ i (h : i < a.length) (h' : i < b.length), sameN a[i] b[i] = true)
  | [], [], _ => by simp [sameL]
  | [], _ :: _, h => by simp at h
  | _ :: _, [], h => by simp at h
  | a :: l, b :: r, h => by
    rw [sameL, Bool.and_eq_true, sameL_iff (a := l) (b := r) (by simpa using h)]
    constructor
    · rintro ⟨h1, h2⟩ i hi hi'
      cases i with
      | zero => exact h1
      | succ i => exact h2 i (by simpa using hi) (by simpa using hi')
    · exact fun k => ⟨k 0 (by simp) (by simp), fun i hi hi' => k (i + 1) (by simpa using hi) (by simpa using hi')⟩

theorem sameL_len : ∀ {a b : List Nod}, sameL a b = true → a.length = b.length
  | [], [], _ => rfl
  | [], _ :: _, h => by simp [sameL] at h
  | _ :: _, [], h => by simp [sameL] at h
  | a :: l, b :: r, h => by
    rw [sameL, Bool.and_eq_true] at h
    simp [sameL_len h.2]

def sameD (a b : Dsk) : Bool := a.blocks == b.blocks && a.inodes == b.inodes && a.next == b.next && sameL a.nodes b.nodes

theorem sameD_refl (a : Dsk) : sameD a a = true := by simp [sameD, sameL_refl]

theorem e_lists {a b : Dsk} (ha : Okd a) (hb : Okd b) : f_slices_EqualFunc_LNode_Node_Node__disk_sameNode a.nodes b.nodes () = some (sameL a.nodes b.nodes) ∧
    (a.nodes.length = b.nodes.length → L_r3_Same_l0 (a, b, 0) = some (if sameL a.nodes b.nodes = true then .inr () else .inl false)) := by
  have hl := ha.sm.1
  by_cases hn : a.nodes.length = b.nodes.length
  case neg =>
    refine ⟨?_, fun h => absurd h hn⟩
    have hb : ((a.nodes.length : Int) != (b.nodes.length : Int)) = true := by simp; omega
    simp only [f_slices_EqualFunc_LNode_Node_Node__disk_sameNode, t_slices_EqualFunc_LNode_Node_Node__disk_sameNode]
    rw [run_iteT hb, run_ret]
    cases c : sameL a.nodes b.nodes with
    | true => exact absurd (sameL_len c) hn
    | false => rfl
  have hb' : ((a.nodes.length : Int) != (b.nodes.length : Int)) = false := by simp; omega
  have node : ∀ i (h : i < a.nodes.length), f_disk_sameNode a.nodes[i] (b.nodes[i]'(by omega)) = some (sameN a.nodes[i] (b.nodes[i]'(by omega))) ∧ f_r3_Nodes a.nodes[i] (b.nodes[i]'(by omega)) = some (sameN a.nodes[i] (b.nodes[i]'(by omega))) := fun i h =>
    e_nodes (ha.fil _ (List.getElem_mem h)) (hb.fil _ (List.getElem_mem (by omega))) (ha.sm.2 _ (List.getElem_mem h)) (hb.sm.2 _ (List.getElem_mem (by omega)))
  have iff := sameL_iff hn
  constructor
  · simp only [f_slices_EqualFunc_LNode_Node_Node__disk_sameNode, t_slices_EqualFunc_LNode_Node_Node__disk_sameNode]
    rw [run_iteF hb']
    have key := loop_all (t := fun q : List Nod × (Unit × (List Nod × (Int × Int))) => tl_slices_EqualFunc_LNode_Node_Node__disk_sameNode_l0 q.1 q.2.1 q.2.2.1 q.2.2.2.1 q.2.2.2.2) a.nodes.length (fun i => ∀ (h : i < a.nodes.length) (h' : i < b.nodes.length), sameN a.nodes[i] b.nodes[i] = true)
      (fun i => (b.nodes, (), a.nodes, (a.nodes.length : Int), (i : Int))) (.inl false) (.inr ()) (fun i hi hbf => ?_) (fun hall => ?_)
    · rcases key with ⟨k1, k2⟩ | ⟨k1, k2⟩
      · have e : L_slices_EqualFunc_LNode_Node_Node__disk_sameNode_l0 (b.nodes, (), a.nodes, (a.nodes.length : Int), 0) = some (.inr ()) := k2
        rw [run_bind e, run_caseR, run_ret, iff.2 fun i h h' => k1 i h h h']
      · have e : L_slices_EqualFunc_LNode_Node_Node__disk_sameNode_l0 (b.nodes, (), a.nodes, (a.nodes.length : Int), 0) = some (.inl false) := k2
        rw [run_bind e, run_caseL, run_ret]
        cases c : sameL a.nodes b.nodes with
        | false => rfl
        | true => exact absurd (fun i _ h h' => iff.1 c i h h') k1
    · have hw := wrS (i := i) (by unfold SM at hl; omega)
      simp only [tl_slices_EqualFunc_LNode_Node_Node__disk_sameNode_l0]
      rw [run_iteT (by simp; omega), run_req (inb hi), run_req (inb (by omega))]
      simp only [getD_int hi, getD_int (l := b.nodes) (show i < b.nodes.length by omega)]
      rw [run_bind (node i hi).1]
      cases c : sameN a.nodes[i] (b.nodes[i]'(by omega)) with
      | true => exact .inl ⟨fun _ _ => c, by rw [run_iteF (by rfl), run_ret, hw]⟩
      | false => exact .inr ⟨fun h => (by have := h hi (by omega); rw [c] at this; cases this), by rw [run_iteT (by rfl), run_ret]⟩
    · simp only [tl_slices_EqualFunc_LNode_Node_Node__disk_sameNode_l0]
      rw [run_iteF (by simp), run_ret]
  · intro _
    have key := loop_all (t := fun q : Dsk × (Dsk × Int) => tl_r3_Same_l0 q.1 q.2.1 q.2.2) a.nodes.length (fun i => ∀ (h : i < a.nodes.length) (h' : i < b.nodes.length), sameN a.nodes[i] b.nodes[i] = true)
      (fun i => (a, b, (i : Int))) (.inl false) (.inr ()) (fun i hi hbf => ?_) (fun hall => ?_)
    · rcases key with ⟨k1, k2⟩ | ⟨k1, k2⟩
      · have e : L_r3_Same_l0 (a, b, 0) = some (.inr ()) := k2
        rw [e, iff.2 fun i h h' => k1 i h h h']; rfl
      · have e : L_r3_Same_l0 (a, b, 0) = some (.inl false) := k2
        rw [e]
        cases c : sameL a.nodes b.nodes with
        | false => rfl
        | true => exact absurd (fun i _ h h' => iff.1 c i h h') k1
    · have hw := wrS (i := i) (by unfold SM at hl; omega)
      simp only [tl_r3_Same_l0]
      rw [run_iteT (by simp; omega), run_req (inb hi), run_req (inb (by omega))]
      simp only [getD_int hi, getD_int (l := b.nodes) (show i < b.nodes.length by omega)]
      rw [run_bind (node i hi).2]
      cases c : sameN a.nodes[i] (b.nodes[i]'(by omega)) with
      | true => exact .inl ⟨fun _ _ => c, by rw [run_iteF (by rfl), run_ret, hw]⟩
      | false => exact .inr ⟨fun h => (by have := h hi (by omega); rw [c] at this; cases this), by rw [run_iteT (by rfl), run_ret]⟩
    · simp only [tl_r3_Same_l0]
      rw [run_iteF (by simp), run_ret]

theorem e_dSame {a b : Dsk} (ha : Okd a) (hb : Okd b) : f_disk_Same a b = some (sameD a b) := by
  obtain ⟨h1, h2⟩ := e_lists ha hb
  simp only [f_disk_Same, t_disk_Same, sameD]
  cases c1 : a.blocks == b.blocks with
  | false => rw [run_iteF (by rfl), run_ret]; simp
  | true =>
  rw [run_iteT (by rfl)]
  cases c2 : a.inodes == b.inodes with
  | false => rw [run_iteF (by rfl), run_ret]; simp
  | true =>
  rw [run_iteT (by rfl)]
  cases c3 : a.next == b.next with
  | false => rw [run_iteF (by rfl), run_ret]; simp
  | true =>
  rw [run_iteT (by rfl), run_bind h1, run_ret]; simp

theorem e_rSame {a b : Dsk} (ha : Okd a) (hb : Okd b) : f_r3_Same a b = some (sameD a b) := by
  obtain ⟨h1, h2⟩ := e_lists ha hb
  simp only [f_r3_Same, t_r3_Same, sameD, bne]
  cases c1 : a.blocks == b.blocks with
  | false => rw [run_iteT (by rfl), run_ret]; simp
  | true =>
  rw [run_iteF (by rfl)]
  cases c2 : a.inodes == b.inodes with
  | false => rw [run_iteT (by rfl), run_ret]; simp
  | true =>
  rw [run_iteF (by rfl)]
  cases c3 : a.next == b.next with
  | false => rw [run_iteT (by rfl), run_ret]; simp
  | true =>
  rw [run_iteF (by rfl)]
  by_cases hn : a.nodes.length = b.nodes.length
  · rw [run_iteF (by simp; omega), run_bind (h2 hn)]
    cases c : sameL a.nodes b.nodes with
    | true => simp only [if_true]; rw [run_caseR, run_ret]; simp
    | false => simp only [Bool.false_eq_true, if_false]; rw [run_caseL, run_ret]; simp
  · rw [run_iteT (by simp; omega), run_ret]
    cases c : sameL a.nodes b.nodes with
    | true => exact absurd (sameL_len c) hn
    | false => simp

theorem e_Same {a b : Dsk} (ha : Okd a) (hb : Okd b) : f_disk_Same a b = some (sameD a b) ∧ f_r3_Same a b = some (sameD a b) := ⟨e_dSame ha hb, e_rSame ha hb⟩

theorem e_disk_Copy {d : Dsk} (h : SmD d) : f_disk_Copy d = some d := by
  obtain ⟨bl, ino, nx, nodes⟩ := d
  obtain ⟨h1, h2⟩ := h
  simp only at h1 h2
  have hc : f_slices_Clone_Node nodes = some nodes := e_clone h1 (by omega)
  have hl : L_disk_Copy_l0 (Dsk.mk bl ino nx nodes, nodes.length, Dsk.mk 0 0 0 [], (nodes.length : Int), 0) = some (Dsk.mk bl ino nx nodes, Dsk.mk 0 0 0 []) := by
    refine loop_to (fun i => (Dsk.mk bl ino nx nodes, nodes.length, Dsk.mk 0 0 0 [], (nodes.length : Int), (i : Int))) nodes.length (fun i hi => ?_) ?_
    · have hw := wrS (i := i) (by unfold SM at h1; omega)
      have hd := e_disk_node (h2 _ (List.getElem_mem hi))
      simp only [tl_disk_Copy_l0]
      rw [run_iteT (by simp; omega), run_req (inb hi), run_req (by simpa using hi)]
      simp only [getD_int hi]
      rw [run_bind hd, run_req (inb hi), run_req (by simpa using hi)]
      simp only [Int.toNat_natCast, List.set_getElem_self]
      rw [run_req trivial, run_ret, hw]
    · simp only [tl_disk_Copy_l0]
      rw [run_iteF (by simp), run_same, run_ret]
  simp only [f_disk_Copy, t_disk_Copy]
  rw [run_bind hc, run_same, run_bind hl, run_same, run_ret]

theorem law_DiskSame (a b : Dsk) (ha : SmD a) (hb : SmD b) (na : ∀ n ∈ a.nodes, ∀ x ∈ n.names, x.name.length ≤ SM) (nb : ∀ n ∈ b.nodes, ∀ x ∈ n.names, x.name.length ≤ SM) : f_law3_DiskSame a b = some true := by
  obtain ⟨x, hx⟩ := e_heavy3 ha
  obtain ⟨y, hy⟩ := e_heavy3 hb
  obtain ⟨p, hp, okp⟩ := e_r3_Is ha na
  obtain ⟨q, hq, okq⟩ := e_r3_Is hb nb
  have hk : f_law3_known = some true := rfl
  simp only [f_law3_DiskSame, t_law3_DiskSame]
  rw [run_bind hx]
  cases x with
  | true => rw [run_iteT (by rfl), run_ret]
  | false =>
  rw [run_iteF (by rfl), run_bind hy]
  cases y with
  | true => rw [run_iteT (by rfl), run_ret]
  | false =>
  rw [run_iteF (by rfl), run_bind hp]
  cases p with
  | false => rw [run_iteT (by rfl), run_ret]
  | true =>
  rw [run_iteF (by rfl), run_bind hq]
  cases q with
  | false => rw [run_iteT (by rfl), run_ret]
  | true =>
  have oa : Okd a := ⟨ha, fun n hn => ((okp rfl).nodes n hn).file⟩
  have ob : Okd b := ⟨hb, fun n hn => ((okq rfl).nodes n hn).file⟩
  rw [run_iteF (by rfl), run_bind (e_Same oa ob).1, run_bind (e_Same oa ob).2, run_iteT (by simp), run_bind (e_disk_Copy ha), run_bind (e_Same oa oa).1, sameD_refl, run_iteT (by rfl), run_bind (e_disk_Copy hb), run_bind (e_Same ob ob).2, sameD_refl, run_iteT (by rfl), run_bind hk, run_ret]

theorem lawW_DiskSame (a b : Dsk) (h : wDsk a + (wDsk b + 0) ≤ 1048576) : f_law3_DiskSame a b = some true := by
  obtain ⟨h1, h2, _⟩ := sm_of_w (d := a) (n := 1048576) (by omega) (by unfold SM; omega)
  obtain ⟨k1, k2, _⟩ := sm_of_w (d := b) (n := 1048576) (by omega) (by unfold SM; omega)
  exact law_DiskSame a b h1 k1 h2 k2

end Go.Proofs.Ytmkmjjodiicmlaa.VS
