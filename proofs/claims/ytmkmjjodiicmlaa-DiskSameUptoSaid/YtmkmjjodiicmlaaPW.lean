/- What a reading's weight bounds. Conditions: none. -/
import Derived.Test.YtmkmjjodiicmlaaPD1
import Derived.Test.YtmkmjjodiicmlaaVZ5
namespace Go.Proofs.Ytmkmjjodiicmlaa.VS

def totN0 (nodes : List Nod) : Nat := (nodes.map fun n => n.names.length).sum

theorem len_le {α : Type} {w : α → Nat} {l : List α} (hw : ∀ x, 1 ≤ w x) : l.length < wL w l := w_len fun x _ => hw x

theorem smF_of_w {f : Fil} {n : Nat} (h : wFil f ≤ n) (hn : n ≤ SM) : SmF f := by
  unfold wFil wI at h
  have h1 : f.blocks.length < wL wBlk f.blocks := len_le fun x => by unfold wBlk; omega
  refine ⟨by omega, fun b hb => ?_⟩
  have h2 := w_mem (w := wBlk) hb
  have h3 : b.data.length < wL wB b.data := len_le fun x => by unfold wB; omega
  have h4 : wL wB b.data < wBlk b := by unfold wBlk; omega
  omega

theorem smN_of_w {x : Nod} {n : Nat} (h : wNod x ≤ n) (hn : n ≤ SM) : SmN x ∧ ∀ y ∈ x.names, y.name.length ≤ SM := by
  unfold wNod wI at h
  have h1 : x.names.length < wL wNam x.names := len_le fun x => by unfold wNam; omega
  refine ⟨⟨by omega, smF_of_w (n := n) (by omega) hn⟩, fun y hy => ?_⟩
  have h2 := w_mem (w := wNam) hy
  have h3 : y.name.length < wNam y := by unfold wNam wS; omega
  omega

theorem sm_of_w {d : Dsk} {n : Nat} (h : wDsk d ≤ n) (hn : n ≤ SM) : SmD d ∧ (∀ n ∈ d.nodes, ∀ x ∈ n.names, x.name.length ≤ SM) ∧ (d.nodes.map fun n => n.names.length).sum ≤ SM := by
  unfold wDsk wI at h
  have h1 : d.nodes.length < wL wNod d.nodes := len_le fun x => by unfold wNod; omega
  have h2 : ∀ x ∈ d.nodes, wNod x ≤ SM := fun x hx => by have := w_mem (w := wNod) hx; omega
  refine ⟨⟨by omega, fun x hx => (smN_of_w (h2 x hx) (Nat.le_refl _)).1⟩, fun x hx => (smN_of_w (h2 x hx) (Nat.le_refl _)).2, ?_⟩
  have h3 : (d.nodes.map fun n => n.names.length).sum ≤ (d.nodes.map wNod).sum := by
    induction d.nodes with
    | nil => simp
    | cons a l ih =>
      have h4 : a.names.length < wL wNam a.names := len_le fun x => by unfold wNam; omega
      have h5 : wL wNam a.names ≤ wNod a := by unfold wNod; omega
      simp only [List.map_cons, List.sum_cons]
      omega
  unfold wL at h
  omega

end Go.Proofs.Ytmkmjjodiicmlaa.VS
