/-
  (*Sig).Copy: another signature of the same symbols, in blocks of its own.
-/
import Derived.Test.YtpknnhdpnmkpcaaBack
import Derived.Test.YtpknnhdpnmkpcaaClone
namespace Go.Proofs.Ytpknnhdpnmkpcaa
open Go.RowKit Go.Maps
open Go.WideMaps Go.WideElems

theorem findL_take {L : List Sym} (hG : Good L) {k : Nat} (hk : k < L.length) : findL (L.take k) L[k].name = none := by
  have h := (hG k hk).1
  unfold findL at *
  rw [List.findIdx?_eq_some_iff_getElem] at h
  obtain ⟨_, _, h2⟩ := h
  rw [List.findIdx?_eq_none_iff]
  intro x hx
  obtain ⟨j, hj, rfl⟩ := List.mem_iff_getElem.1 hx
  have hjk : j < k := by simp at hj; omega
  rw [List.getElem_take]
  simpa using h2 j hjk

/-- Between two rounds of Copy. -/
structure CI (w wr : World) (c cm : Nat) (L : List Sym) (k : Nat) : Prop where
  blk : Blk wr c 52 #[.slice none 0 0, .map (some cm)]
  map : ∃ D, wr.ownsMap Try.prog 9 (plainElem (H := Unit) Try.prog 3) cm k D ∧ Tells D (L.take k)
  same : Same w wr
  hc : w.heap.size ≤ c
  hm : w.heap.size ≤ cm

theorem CI.more {w wr w1 : World} {c cm : Nat} {L : List Sym} {k : Nat} {D : DataW Unit} {o : Obj} (h : CI w wr c cm L k) (hM : wr.ownsMap Try.prog 9 (plainElem (H := Unit) Try.prog 3) cm k D) (hT : Tells D (L.take k)) (hG : Good L) (hk : k < L.length)
    (hg : ((wr.alloc o).drew).grownBy w1 (some cm)) (hown : w1.ownsMap Try.prog 9 (plainElem (H := Unit) Try.prog 3) cm (k + 1) (D.put (keyL L[k].name) (i64 k))) : CI w w1 c cm L (k + 1) := by
  have hne := blk_map_ne h.blk hM
  refine ⟨((h.blk.alloc o).drew).grown hg (fun e => hne (Option.some.inj e)), ⟨_, hown, ?_⟩, ((h.same.alloc o).drew).grown hg (fun j hj => .inr (by have := h.hm; have e := Option.some.inj hj; omega)), h.hc, h.hm⟩
  have hf := findL_take hG hk
  have hl : (L.take k).length = k := by simp; omega
  have := tells_snoc hT hf
  rw [hl] at this
  rw [List.take_succ_eq_append_getElem hk]
  exact this

set_option maxRecDepth 100000 in
set_option maxHeartbeats 4000000 in
theorem copy_any (w : World) (b bm : Nat) (v : Value) (L : List Sym) (h : SigAt w b bm v L) (hG : Good L) :
    Calls Try.prog 19 #[.pointer (some ⟨b, 0, none⟩)] w fun e w' => ∃ c cm u, e = .returned (.pointer (some ⟨c, 0, none⟩)) ∧ SigAt w' c cm u L ∧ Same w w' ∧ (∀ k, foot c cm u k → w.heap.size ≤ k) := by
  have H := Lib.hid h; have HG := Lib.hid hG
  have h64 := h.few
  obtain ⟨a, ac, rfl, _, _⟩ := own_shape h.own
  clear h hG
  go_enter Try.func19, Try.ntmps19
  go_wp2_with fail
  refine (new_any _).mono ?_
  rintro e w1 ⟨c, cm, rfl, h1, hs1, hc, hm⟩
  have HV1 : Hid (CI w w1 c cm L 0) := ⟨h1.blk, h1.map, hs1, hc, hm⟩
  have l0 : w1.cell? ⟨b, 0, none⟩ = some (.slice a L.length ac) := ((H.out.blk.turned hs1 (fun h => h)).cell 0).trans rfl
  clear h1 hs1 hc hm
  go_wp2_with fail
  go_loopw [14] (fun i wr => ∃ k : Nat, k ≤ L.length ∧ i = .int .i64 k ∧ Hid (CI w wr c cm L k)) (fun i _ => L.length - (intOf i).toNat)
  case atStart => exact ⟨0, Nat.zero_le _, rfl, HV1.out⟩
  case round =>
    clear HV1 l0
    obtain ⟨k, hk, rfl, HV⟩ := hrel
    by_cases hlt : k < L.length
    · have hown := H.out.own
      obtain ⟨g, cap, hv, _, hgl⟩ := hown.form (by omega)
      obtain ⟨rfl, rfl⟩ : a = some ⟨g, 0, none⟩ ∧ ac = cap := by simpa using hv
      have hcl := hown.cells (g := g) rfl
      obtain ⟨e0, e1, e2⟩ := symCells_at L k hlt
      have q0 := hcl _ _ e0
      have q1 := hcl _ _ e1
      have q2 := hcl _ _ e2
      simp only [Addr.add_lit, Nat.zero_add] at q0 q1 q2
      have d0 := (HV.out.same.cell (p := ⟨g, k * 3, none⟩) hgl (fun h => h)).trans q0
      have d1 := (HV.out.same.cell (p := ⟨g, k * 3 + 1, none⟩) hgl (fun h => h)).trans q1
      have d2 := (HV.out.same.cell (p := ⟨g, k * 3 + 2, none⟩) hgl (fun h => h)).trans q2
      obtain ⟨D, hM, hT⟩ := HV.out.map
      have hsz := (HG.out k hlt).2
      have HMore : Hid (∀ (o : Obj) (w1 : World), ((wr.alloc o).drew).grownBy w1 (some cm) → w1.ownsMap Try.prog 9 (plainElem (H := Unit) Try.prog 3) cm (k + 1) (D.put (keyL L[k].name) (i64 k)) → CI w w1 c cm L (k + 1)) := fun o w1 hg ho => HV.out.more hM hT HG.out hlt hg ho
      obtain ⟨x, hx⟩ : ∃ x, x = L[k] := ⟨_, rfl⟩
      rw [← hx] at d0 d1 d2 hsz HMore
      have hk0 : (0 : Int) ≤ k := by omega
      have hk1 : (k : Int) < L.length := by omega
      have HM := Lib.hid hM
      clear hown hv hcl e0 e1 e2 q0 q1 q2 hM hT hx hgl
      go_wp2_with fail
      obtain ⟨W0, hW0⟩ : ∃ W0, W0 = wr.alloc (Obj.cells #[Value.string x.name, Value.int IntKind.i64 x.arity, Value.bool x.defd] 31) := ⟨_, rfl⟩
      have B0 : Blk W0 c 52 #[.slice none 0 0, .map (some cm)] := by rw [hW0]; exact HV.out.blk.alloc _
      have X0 : Blk W0 wr.heap.size 31 #[.string x.name, .int .i64 x.arity, .bool x.defd] := by rw [hW0]; exact Blk.new wr 31 _
      have M0 : W0.ownsMap Try.prog 9 (plainElem (H := Unit) Try.prog 3) cm k D := by rw [hW0]; exact HM.out.alloc _
      have HM2 : Hid (∀ (w1 : World), (W0.drew).grownBy w1 (some cm) → w1.ownsMap Try.prog 9 (plainElem (H := Unit) Try.prog 3) cm (k + 1) (D.put (keyL x.name) (i64 k)) → CI w w1 c cm L (k + 1)) := by rw [hW0]; exact HMore.out _
      rw [← hW0]
      have hwl : (Lit.int .i64 (k : Int)).wf = true := WalkArith.wf_i64 (by omega)
      obtain ⟨w1, hup, hown1, hg1⟩ := (M0.drew).update law9 Try.underlying50 (by unfold maxLen; omega) (key := .string x.name) (val := .int .i64 k) (keyOf_string_mk Try.underlying9 hsz) (plainElem_int Try.underlying3 hwl)
      have HV4 := Lib.hid (HM2.out w1 hg1 hown1)
      have b1 := B0.cell 1
      have x0 := X0.cell 0
      have b11 := HV4.out.blk.cell 1
      have x10 := (Blk.grown X0.drew hg1 (fun e => blk_map_ne X0 M0 (by simpa using e))).cell 0
      simp at b1 x0 b11 x10
      clear HMore HM HM2 B0 X0 M0 hown1 hg1 hW0
      go_region_held3 (fun w' => w'.cell? ⟨c, 1, none⟩ = some (.map (some cm)) ∧ w'.cell? ⟨wr.heap.size, 0, none⟩ = some (.string x.name)) (go_keep) (fail)
      clear hup b1 x0 b11 x10
      go_wp2_with fail
      go_roundw
      case rel => exact ⟨k + 1, by omega, by go_num, HV4⟩
      case measure => simp [intOf]; omega
    · obtain rfl : k = L.length := by omega
      have l0 : wr.cell? ⟨b, 0, none⟩ = some (.slice a L.length ac) := ((H.out.blk.turned HV.out.same (fun h => h)).cell 0).trans rfl
      go_wp2_with fail
      refine (clone_any _ _ L (World.ownsRow.turned H.out.own HV.out.same (fun _ _ h => h)) h64).mono ?_
      rintro e w2 ⟨u, rfl, hu, hs2, hf⟩
      have hB2 := HV.out.blk.turned hs2 (fun h => h)
      have c0 : w2.cell? ⟨c, 0, none⟩ = some (.slice none 0 0) := (hB2.cell 0).trans rfl
      have f0 := hB2.frozen 0
      obtain ⟨ua, uc, rfl, _, _⟩ := own_shape hu
      have HF : Hid (SigAt (w2.setCell ⟨c, 0, none⟩ (.slice ua L.length uc)) c cm (.slice ua L.length uc) L ∧ Same w (w2.setCell ⟨c, 0, none⟩ (.slice ua L.length uc)) ∧ (∀ k, foot c cm (.slice ua L.length uc) k → w.heap.size ≤ k)) := by
        obtain ⟨D, hM, hT⟩ := HV.out.map
        have hM2 := World.ownsMap.turned hM hs2 (fun h => h)
        have hlt := HV.out.blk.lt
        have hsz := HV.out.same.size
        refine ⟨⟨(hB2.set_ 0 _).trans rfl, World.ownsRow.turned hu (S := fun k => k = c) (Turned.setCell (S := fun k => k = c) (Turned.refl _ w2) (p := ⟨c, 0, none⟩) (.inl rfl) _) (fun k hk e => by have := hf k hk; omega), ⟨D, hM2.setCell (Ne.symm (blk_map_ne hB2 hM2)) _, by rw [List.take_length] at hT; exact hT⟩, h64⟩, (HV.out.same.trans hs2 (fun _ h => h.elim)).setCell (p := ⟨c, 0, none⟩) (.inr HV.out.hc) _, fun k hk => ?_⟩
        rcases hk with rfl | rfl | hk
        · exact HV.out.hc
        · exact HV.out.hm
        · have := hf k hk; omega
      clear hu hs2 hf hB2 HV
      go_wp2_with fail
      go_ret
      exact ⟨_, _, _, rfl, HF.out⟩
end Go.Proofs.Ytpknnhdpnmkpcaa
