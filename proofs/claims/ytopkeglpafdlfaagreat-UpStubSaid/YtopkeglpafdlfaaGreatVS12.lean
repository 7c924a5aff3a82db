/- Texts and bytes, maps, lengths: what each leaves, on both sides. Conditions: none. -/
import Derived.Test.YtopkeglpafdlfaaGreatVS11
import Derived.Laws.IdiomStrings
namespace Go.Proofs.YtopkeglpafdlfaaGreat.VS
variable [Syms]

section
variable {P : Program} {T : Tabs} {c : Ctx} {m : Map} {H : Heap} {F : List Nat} {w : World}

omit [Syms] in
theorem isByte_some (hT : TyOK P T) {e : TypeId} (h : isByte T e = true) : P.underlying e = some (.int .u8) := by
  unfold isByte at h
  split at h
  · rename_i hk; exact kind_int hT hk
  · cases h

omit [Syms] in
theorem toBytes_some : ∀ {xs : List AV} {s : List UInt8}, toBytes xs = some s → ∃ ns : List Int, xs = ns.map (AV.int .u8) ∧ s = ns.map fun n => UInt8.ofNat n.toNat
  | [], s, h => by simp [toBytes] at h; subst h; exact ⟨[], rfl, rfl⟩
  | x :: r, s, h => by
    cases x with
    | int k n =>
      cases k <;> simp only [toBytes] at h <;> try (cases h; done)
      split at h
      · rename_i s' hs'
        cases h
        obtain ⟨ns, h1, h2⟩ := toBytes_some hs'
        exact ⟨n :: ns, by rw [h1]; rfl, by rw [h2]; rfl⟩
      · cases h
    | _ => simp [toBytes] at h

omit [Syms] in
theorem flat_ints (k : IntKind) (ns : List Int) : flat (ns.map (AV.int k)) = ns.map (AV.int k) := by
  induction ns with
  | nil => rfl
  | cons a l ih => rw [List.map_cons, flat_cons, ih]; rfl

theorem cr_ints {ok : Nat → Prop} {h : Array Obj} {k : IntKind} {ns : List Int} {C : Array Value} (hr : CR ok h m (ns.map (AV.int k)) C 0) (hs : C.size = ns.length) : C = (ns.map (Value.int k)).toArray := by
  apply Array.ext
  · simpa using hs
  · intro i h1 h2
    obtain ⟨v, hv, hr'⟩ := hr i (.int k (ns[i]'(by omega))) (by simp [List.getElem?_map, List.getElem?_eq_getElem (show i < ns.length by omega)])
    rw [Nat.zero_add, Array.getElem?_eq_getElem h1] at hv
    cases hv
    generalize C[i]'h1 = u at hr'
    cases hr'
    simp

omit [Syms] in
theorem elems_gs {g : GT} {b n : Nat} {ys : List AV} (h : elems H (.gs g b n) = some ys) : ys.length = n := by
  simp only [elems] at h
  split at h
  · rename_i q zs hb
    cases hcc : n.beq zs.length with
    | false => simp [hcc] at h
    | true => simp only [hcc, cond_true, Option.some.injEq] at h; rw [← h]; exact (beq_eq' hcc).symm
  · rename_i q zs hb
    cases hcc : n.beq zs.length with
    | false => simp [hcc] at h
    | true => simp only [hcc, cond_true, Option.some.injEq] at h; rw [← h, encs_length]; exact (beq_eq' hcc).symm
  · cases h

omit [Syms] in
theorem elems_osl {s0 b lo len : Nat} {ys : List AV} (h : elems H (.osl s0 b lo len) = some ys) : ys.length = len := by
  simp only [elems] at h
  split at h
  · rename_i q zs hb
    cases hcc : (lo + len).ble zs.length with
    | false => simp [hcc] at h
    | true =>
      simp only [hcc, cond_true, Option.some.injEq] at h
      have := ble_le hcc
      rw [← h]; simp; omega
  · rename_i t zs hb
    cases hcc : (lo + len).ble zs.length with
    | false => simp [hcc] at h
    | true =>
      simp only [hcc, cond_true, Option.some.injEq] at h
      have := ble_le hcc
      rw [← h]; simp [encs_length]; omega
  · cases h

theorem sim_toStr (hT : TyOK P T) (hs : SR c m H F w) {id : Nat} {src dst el : TypeId} (hsrc : kindOf T src = .slice el) (hd : kindOf T dst = .str) {x v : AV} (hns : ∀ s, x = .str s → False) {e : Eff} {rd fz : List Nat} (h : toStr T H el x = .ok v e rd fz)
    {vx : Value} (hx : VR (okB c.X m H F) w.heap m x vx) :
    ∃ cv m' w', (convert src dst vx).run P w = .ok cv w' ∧ Done c m H F w id v e fz cv m' w' := by
  unfold toStr at h
  cases hc : isByte T el with
  | false => simp [hc] at h
  | true =>
    simp only [hc, cond_true] at h
    split at h
    · rename_i xs hxs
      split at h
      · rename_i s hsb
        simp only [Res.ok.injEq] at h
        obtain ⟨rfl, rfl, rfl, rfl⟩ := h
        obtain ⟨ns, rfl, rfl⟩ := toBytes_some hsb
        obtain ⟨new, n1, n2, n3, n4⟩ := sim_elems (P := P) hs hxs hx (s := 1) (fun y hy => by obtain ⟨b, _, rfl⟩ := List.mem_map.1 hy; rfl)
        rw [flat_ints] at n2
        rw [List.length_map, Nat.mul_one] at n1
        have hnew := cr_ints n2 n1
        have hrun := n4 w rfl
        have hconv : ∀ (a : Option Addr) (l cp : Nat), (convert src dst (.slice a l cp)).run P w = (Conv.bytesToString (.slice a l cp)).run P w := fun a l cp =>
          run_convert_bytes_string w src dst el a l cp (kind_slice hT hsrc) (isByte_some hT hc) (kind_str hT hd)
        have hdone : VR (okB c.X m H F) w.heap m (.str (ns.map fun n => UInt8.ofNat n.toNat)) (.string (ns.foldl (fun r n => r.push (UInt8.ofNat n.toNat)) ByteArray.empty)) := by
          refine .str _ _ ?_
          rw [foldl_push_bytes]
          simp [ByteArray.empty, ByteArray.emptyWithCapacity]
          try rfl
        have some_ : ∀ (a : Addr) (cp : Nat), vx = .slice (some a) ns.length cp → ∃ cv m' w', (convert src dst vx).run P w = .ok cv w' ∧ Done c m H F w id (.str (ns.map fun n => UInt8.ofNat n.toNat)) [] [] cv m' w' := by
          intro a cp hv
          subst hv
          simp only [Builtin.firstCells, List.length_map, Nat.mul_one, hnew] at hrun
          exact ⟨_, m, w, by rw [hconv, run_bytesToString w a _ _ ns hrun], Done.quiet hs hdone⟩
        have nil_ : ∀ (cp : Nat), vx = .slice none 0 cp → ns = [] → ∃ cv m' w', (convert src dst vx).run P w = .ok cv w' ∧ Done c m H F w id (.str (ns.map fun n => UInt8.ofNat n.toNat)) [] [] cv m' w' := by
          intro cp hv hn
          subst hv; subst hn
          exact ⟨_, m, w, by rw [hconv]; rfl, Done.quiet hs hdone⟩
        have slc : ∀ {ys : List AV}, VR (okB c.X m H F) w.heap m (.sl ys) vx → ys = ns.map (AV.int .u8) → ∃ cv m' w', (convert src dst vx).run P w = .ok cv w' ∧ Done c m H F w id (.str (ns.map fun n => UInt8.ofNat n.toNat)) [] [] cv m' w' := by
          intro ys hx hxs
          obtain ⟨a, cp, hv, _⟩ := hx.sl_any
          have hl : ys.length = ns.length := by rw [hxs]; simp
          rw [hl] at hv
          cases a with
          | none =>
            have : ns = [] := by
              cases hx with
              | slE h1 => exact List.length_eq_zero_iff.1 hl.symm
              | sl => cases hv
            subst this; exact nil_ _ hv rfl
          | some a => exact some_ a _ hv
        cases x with
        | nils => cases hx; simp [elems] at hxs; exact nil_ _ rfl (by simpa using hxs)
        | emp =>
          simp [elems] at hxs
          have hn : ns = [] := by simpa using hxs
          cases hx with
          | emp =>
            rename_i a
            cases a with
            | none => exact nil_ _ rfl hn
            | some a => subst hn; exact some_ a _ rfl
        | nev =>
          simp [elems] at hxs
          have hn : ns = [] := by simpa using hxs
          cases hx with
          | nev => subst hn; exact some_ _ _ rfl
        | sl ys =>
          simp [elems] at hxs
          exact slc hx hxs
        | tl gt xs =>
          simp [elems] at hxs
          exact slc (VR.tl_iff.1 hx) hxs
        | osl s0 b lo len =>
          obtain ⟨a, cp, hv, _⟩ := hx.osl_any
          have hl : len = ns.length := by
            have := elems_osl hxs; simpa using this.symm
          rw [hl] at hv
          exact some_ a _ hv
        | gs g b n =>
          have hl : n = ns.length := by
            have := elems_gs hxs; simpa using this.symm
          cases hx with
          | gsE =>
            rename_i a
            have hn : ns = [] := List.length_eq_zero_iff.1 hl.symm
            cases a with
            | none => exact nil_ _ rfl hn
            | some a => subst hn; exact some_ a _ rfl
          | gs hx =>
            obtain ⟨a, cp, hv, _⟩ := hx.osl_any
            cases hv
            exact some_ a _ (by rw [← hl])
        | str q => exact (hns q rfl).elim
        | _ => simp [elems] at hxs
      · cases h
    · cases h

omit [Syms] in
/-- The mark of bytes that were a text. -/
theorem run_mark {w : World} {β : Nat} (o : Nat) {C : Array Value} {e : TypeId} {z : Nat × Nat} (hC : w.heap[β]? = some (.cells C e z)) (hz : NoFz 1 C z) :
    ∃ w', (markStringish ⟨β, o, none⟩).run P w = .ok () w' ∧ (Alike w w' ∧ w'.heap.size = w.heap.size) ∧ (∀ γ, γ ≠ β → w'.heap[γ]? = w.heap[γ]?) ∧ ∃ z', w'.heap[β]? = some (.cells C e z') ∧ NoFz 1 C z' := by
  have hsh : w.shape? β = some (e, C.size) := by
    unfold World.shape?
    rw [hC]
  refine ⟨w.freeze ⟨β, C.size, none⟩ 1, by simp [markStringish, hsh], ⟨⟨rfl, rfl, rfl⟩, by simp [World.freeze]⟩, fun γ hγ => ?_, ?_⟩
  · simp [World.freeze, Array.getElem?_modify, Ne.symm hγ]
  · simp only [World.freeze, Nat.one_ne_zero, if_false, Array.getElem?_modify, if_true, hC, Option.map_some, Option.some.injEq, Obj.cells.injEq, true_and]
    refine ⟨_, rfl, ?_⟩
    rcases hz with hz | hz
    · rw [if_pos (by simp [hz])]; exact .inr ⟨rfl, Nat.le_refl _⟩
    · split
      · exact .inr ⟨rfl, Nat.le_refl _⟩
      · exact .inr ⟨rfl, by show C.size ≤ min z.1 C.size; omega⟩

theorem sim_convert (hT : TyOK P T) (hs : SR c m H F w) {id : Nat} (hid : m id = none) {src dst : TypeId} {x v : AV} {e : Eff} {rd fz : List Nat} (h : aconvert T H F id src dst x = .ok v e rd fz)
    {vx : Value} (hx : VR (okB c.X m H F) w.heap m x vx) :
    ∃ cv m' w', (convert src dst vx).run P w = .ok cv w' ∧ Done c m H F w id v e fz cv m' w' := by
  unfold aconvert at h
  split at h
  · rename_i k hd
    unfold intOf at h
    split at h
    · rename_i k2 k' n hsrc
      cases hx
      simp only [intv, ro, Res.ok.injEq] at h
      obtain ⟨rfl, rfl, rfl, rfl⟩ := h
      exact ⟨_, m, w, by simp [convert, run_underlying (kind_int hT hsrc), run_underlying (kind_int hT hd), Conv.intToInt], Done.quiet hs (.int _ _)⟩
    · cases h
  · rename_i hd
    unfold strOf at h
    split at h
    · rename_i hsrc
      split at h
      · rename_i s
        obtain ⟨bs, rfl, hbs⟩ := hx.str_inv
        simp only [rv, Res.ok.injEq] at h
        obtain ⟨rfl, rfl, rfl, rfl⟩ := h
        exact ⟨_, m, w, by simp [convert, run_underlying (kind_str hT hsrc), run_underlying (kind_str hT hd)], Done.quiet hs (.str _ _ hbs)⟩
      · cases h
    · rename_i el hsrc
      split at h
      · cases h
      · rename_i hns
        exact sim_toStr hT hs hsrc hd hns h hx
    · cases h
  · rename_i el hd
    unfold bytesOfStr at h
    split at h
    · rename_i s hsrc
      obtain ⟨bs, rfl, hbs⟩ := hx.str_inv
      unfold ofStr at h
      cases hc : isByte T el && s.length.ble 1099511627776 with
      | false => simp [hc] at h
      | true =>
        simp only [hc, cond_true, Res.ok.injEq] at h
        obtain ⟨rfl, rfl, rfl, rfl⟩ := h
        simp only [Bool.and_eq_true] at hc
        have hbl := ble_le hc.2
        have hsize : bs.size = s.length := by rw [← hbs]; exact Array.length_toList.symm
        have hrun := run_bytes_of_string (P := P) w src dst el bs (kind_str hT hsrc) (kind_slice hT hd) (isByte_some hT hc.1)
        have hge := grownCap_ge w bs.size 0 el
        generalize hcap : grownCap w bs.size 0 el = cap at hrun hge
        have hrow : (bytesRow bs cap).size = cap := by
          unfold bytesRow
          rw [Array.size_append, Array.size_map, Array.size_replicate]
          show bs.size + _ = _
          omega
        obtain ⟨f1, f2, f3, f4⟩ := alloc_facts w.drew (.cells (bytesRow bs cap) el ((bytesRow bs cap).size, (bytesRow bs cap).size + 1))
        have hcr : CR (okB c.X m H F) w.heap m (flat (s.map byteV)) (bytesRow bs cap) 0 := by
          rw [byteV_one]
          unfold bytesRow
          refine zeroTail_cr fun j y hy => ?_
          rw [List.getElem?_map] at hy
          cases hj : s[j]? with
          | none => simp [hj] at hy
          | some b =>
            simp [hj] at hy
            subst hy
            refine ⟨.int .u8 b.toNat, ?_, .int _ _⟩
            rw [← hbs, Array.getElem?_toList] at hj
            rw [Nat.zero_add, Array.getElem?_map, hj]; rfl
        obtain ⟨hx2, hsr⟩ := hs.newArr hid (w' := w.drew.alloc (.cells (bytesRow bs cap) el ((bytesRow bs cap).size, (bytesRow bs cap).size + 1))) ⟨f4.os, f4.tape, f4.output⟩ f1 f2 f3 (.inr ⟨rfl, Nat.le_refl _⟩) (s := 1) (by omega)
          (fun y hy => by obtain ⟨b, _, rfl⟩ := List.mem_map.1 hy; rfl) (by rw [hrow, List.length_map]; omega) hcr
        refine ⟨_, _, _, hrun, hx2, hsr, ?_, dom_upd⟩
        rw [← hsize]
        refine .osl (upd_same _ _ _) ?_ (by omega) rfl rfl rfl ?_ ?_
        · show 0 + bs.size ≤ (s.map byteV).length; rw [List.length_map]; omega
        · show (s.map byteV).length ≤ 0 + cap; rw [List.length_map]; omega
        · show 0 + (0 + cap) * 1 ≤ (bytesRow bs cap).size; rw [hrow]; omega
    · rename_i s b lo len hsrc
      cases hc : src.beq dst && isByte T el with
      | false => simp [hc] at h
      | true =>
        simp only [hc, cond_true] at h
        simp only [Bool.and_eq_true] at hc
        have hsd := Nat.eq_of_beq_eq_true hc.1
        subst hsd
        unfold keptArr at h
        split at h
        · rename_i s' xs hb
          obtain ⟨hb, hbF⟩ := hlive_some hb
          cases h1 : s'.beq 1 with
          | false => simp [h1] at h
          | true =>
          have h1 := Nat.eq_of_beq_eq_true h1
          subst h1
          simp only [beq_same, cond_true, Res.ok.injEq] at h
          obtain ⟨rfl, rfl, rfl, rfl⟩ := h
          have hx' := hx
          obtain ⟨L, j1, k2, k3, k4⟩ := hx.osl_inv
          obtain ⟨js, jp, je, jl, C, et, z, j2, j3, j4, j5, j6⟩ := hs.objm hb j1
          rcases k4 with ⟨k5, _⟩ | ⟨c', rfl, k5, k6, k7⟩
          · omega
          · obtain ⟨w', g1, g2, g3, z', g4, g5⟩ := run_mark (P := P) (L.off + lo * s) j2 j4
            obtain ⟨hx1, hsr⟩ := hs.write hb hbF j1 g2.1 g2.2 (o' := .arr 1 xs) g3
            refine ⟨_, m, w', ?_, hx1, hsr ⟨js, jp, je, jl, C, et, z', g4, j3, g5, j5, j6.mono hx1.kk hx1.mm⟩, hx'.mono hx1.kk hx1.mm, fun _ h => .inl h⟩
            simp [convert, run_underlying (kind_slice hT hd), run_underlying (isByte_some hT hc.2), g1]
        · cases h
    · cases h
  · cases h

end
end Go.Proofs.YtopkeglpafdlfaaGreat.VS
