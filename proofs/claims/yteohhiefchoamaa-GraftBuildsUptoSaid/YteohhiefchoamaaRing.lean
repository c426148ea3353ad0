/-
  The walk of heap.ring: it answers, whatever nodes stand in a list, if what they tell of is there.
-/
import Derived.Test.YteohhiefchoamaaRingI
import Derived.Laws.StructEq
import Derived.Deep.DeepCutAuto
namespace Go.Proofs.Yteohhiefchoamaa
open Go.RowKit

theorem info26 : (Try.prog.info? 26).map (fun i => (i.zero, i.size, i.bytes)) = some (some (.slice none 0 0), 1, 24) := by kernel_rfl
/-- Between two rounds of the first loop. -/
structure Ring1 (w wr : World) (gw ga : Nat) (n m : Nat) (fv : Value) (f : Nat) : Prop where
  ex : ∃ W V R F, RingS w wr gw ga W V R fv F ∧ W.length = n ∧ V.length = n ∧ (∀ x ∈ W, 0 ≤ x ∧ x ≤ 6) ∧ RowsOk n m R ∧ Under n F ∧ F.length = f
def Mid (a b : Nat) : Nat → Prop := fun k => a ≤ k ∧ k < b
theorem Rd.mid {w : World} {v : Value} {p : List Int} (h : Rd w v p) (b : Nat) : RdS w (Mid w.heap.size b) v p := by
  obtain ⟨A, c, rfl, h1⟩ := h
  refine ⟨A, c, rfl, fun h0 => ?_⟩
  obtain ⟨bl, off, rfl, hc⟩ := h1 h0
  have := World.block_lt_of_cell? _ _ (hc 0 h0)
  exact ⟨bl, off, rfl, fun h => by have := h.1; simp only at *; omega, hc⟩
theorem RingS.rowLt {w wr : World} {gw ga : Nat} {W : List Int} {V : List Value} {R : List (List Int)} {fv : Value} {F : List Int} (h : RingS w wr gw ga W V R fv F) : ∀ v ∈ V, ∀ k, v.ownBlock = some k → k < wr.heap.size := by
  intro v hv k hk
  obtain ⟨j, hj⟩ := List.getElem?_of_mem hv
  obtain ⟨r, hr⟩ : ∃ r, R[j]? = some r := ⟨R[j]'(by rw [h.rl]; exact (List.getElem?_eq_some_iff.1 hj).1), by simp⟩
  exact own_lt (h.rows j v r hj hr) hk
/-- Between two rounds of the second loop. -/
structure Ring2 (w wr : World) (gw ga : Nat) (n : Nat) (fv : Value) (f g : Nat) : Prop where
  ex : ∃ W V R F, RingS w wr gw ga W V R fv F ∧ W.length = n ∧ V.length = n ∧ (∀ x ∈ W, -(30000 * (g : Int)) ≤ x ∧ x ≤ 6) ∧ RowsOk n 24000 R ∧ Under n F ∧ F.length = f ∧ potL W + f + g ≤ 30000
def RingIn (w wi : World) (gw ga n : Nat) (V : List Value) (R : List (List Int)) (fv : Value) (f : Nat) (lo : Int) (pot : Nat) : Prop :=
  ∃ W F, RingS w wi gw ga W V R fv F ∧ W.length = n ∧ (∀ x ∈ W, lo ≤ x ∧ x ≤ 6) ∧ Under n F ∧ F.length = f ∧ potL W + f ≤ pot
def SomeBool (e : Ending) : Prop := ∃ b : Bool, e = .returned (.bool b)
theorem ring_start (w : World) (n : Nat) : Ring1 w ((w.alloc (.cells (madeCells #[.int .i64 0] n) 3)).alloc (.cells (madeCells #[.slice none 0 0] n) 26)) w.heap.size (w.heap.size + 1) n 0 (.slice none 0 0) 0 := by
  have h1 := zeros_blk (Blk.new w 3 (madeCells #[.int .i64 0] n))
  have h2 := Blk.new (w.alloc (.cells (madeCells #[.int .i64 0] n) 3)) 26 (madeCells #[.slice none 0 0] n)
  have e : madeCells #[Value.slice none 0 0] n = (List.replicate n (Value.slice none 0 0)).toArray := by
    apply Array.ext'
    rw [toList_madeCells_one]
  rw [World.size_alloc] at h2
  have h3 := h1.alloc (.cells (madeCells #[.slice none 0 0] n) 26)
  rw [e] at h2 h3 ⊢
  have hr : ∀ (j : Nat) (v : Value), (List.replicate n (Value.slice none 0 0))[j]? = some v → v = .slice none 0 0 := by
    intro j v h
    exact List.eq_of_mem_replicate (List.mem_of_getElem? h)
  refine ⟨_, _, List.replicate n [], [], ⟨((Turned.refl _ _).alloc _).alloc _, h3, h2, by simp, fun j v r hv hr2 => ?_, World.ownsRow_nil _ _ _ _, Nat.le_refl _, by omega, fun v hv k hk => ?_, fun k hk => by simp [Value.ownBlock] at hk, fun i j vi vj k hi hj hki hkj => ?_⟩, by simp, by simp, ?_, ⟨fun r hr q hq => ?_, fun r hr => ?_⟩, fun d hd => by simp at hd, rfl⟩
  · obtain rfl := hr j v hv
    obtain rfl : r = [] := List.eq_of_mem_replicate (List.mem_of_getElem? hr2)
    exact World.ownsRow_nil _ _ _ _
  · obtain rfl := List.eq_of_mem_replicate hv
    simp [Value.ownBlock] at hk
  · obtain rfl := hr i vi hi
    simp [Value.ownBlock] at hki
  · intro x hx
    obtain rfl := List.eq_of_mem_replicate hx
    omega
  · obtain rfl := List.eq_of_mem_replicate hr
    simp at hq
  · obtain rfl := List.eq_of_mem_replicate hr
    simp

set_option maxRecDepth 100000 in
set_option maxHeartbeats 8000000 in
theorem ring_any (w : World) (v : Value) (K : List Nd) (h : NdRd w v K) (hin : InK K) (hl : K.length ≤ 4000) (hl2 : ∀ x ∈ K, x.args.length ≤ 6) :
    Calls Try.prog 73 #[v] w fun e w' => SomeBool e ∧ Same w w' := by
  have H := Lib.hid h; have HI := Lib.hid hin; have HL2 := Lib.hid hl2
  obtain ⟨A, c, rfl, _⟩ := h
  obtain ⟨i0, hi0, hz0, hz1, hz2⟩ := info_parts info3
  obtain ⟨i1, hi1, hy0, hy1, hy2⟩ := info_parts info26
  have hmk := fun W => run_make (P := Try.prog) W 26 3 i0 (.int .i64 0) Try.underlying26 hi0 hz0 .i64 .i64 K.length K.length (by omega) (by omega) (by rw [hz2]; omega) (by omega)
  have hmk2 := fun W => run_make (P := Try.prog) W 37 26 i1 (.slice none 0 0) Try.underlying37 hi1 hy0 .i64 .i64 K.length K.length (by omega) (by omega) (by rw [hy2]; omega) (by omega)
  simp only [hz1, hy1, Int.toNat_natCast, Nat.mul_one] at hmk hmk2
  have HR0 := Lib.hid (ring_start w K.length)
  have HI0 : Hid (Try.prog.info? 3 = some i0 ∧ i0.zero = some (.int .i64 0) ∧ i0.size = 1 ∧ i0.bytes = 8) := ⟨hi0, hz0, hz1, hz2⟩
  clear hin hl2 hi0 hz0 hz1 hz2 hi1 hy0 hy1 hy2
  obtain ⟨mc, hm⟩ : ∃ mc, mc = madeCells (Value.int .i64 0).cells K.length := ⟨_, rfl⟩
  obtain ⟨md, hd⟩ : ∃ md, md = madeCells (Value.slice none 0 0).cells K.length := ⟨_, rfl⟩
  rw [← hm] at hmk
  rw [← hd] at hmk2
  have e1 : madeCells #[Value.int .i64 0] K.length = mc := hm.symm
  have e2 : madeCells #[Value.slice none 0 0] K.length = md := hd.symm
  rw [e1, e2] at HR0
  clear hm hd e1 e2
  go_enter Try.func73, Try.ntmps73
  go_wp2_with fail
  clear hmk hmk2
  obtain ⟨gw, hgw⟩ : ∃ gw, gw = w.heap.size := ⟨_, rfl⟩
  rw [← hgw] at HR0 ⊢
  obtain ⟨ga, hga⟩ : ∃ ga, ga = gw + 1 := ⟨_, rfl⟩
  rw [← hga] at HR0 ⊢
  clear hgw hga
  go_loopw [5, 23] (fun fv i wr => ∃ k f : Nat, k ≤ K.length ∧ f ≤ k ∧ i = .int .i64 k ∧ (∃ fa fc, fv = .slice fa f fc) ∧ Hid (Ring1 w wr gw ga K.length (6 * k) fv f)) (fun _ i _ => K.length - (intOf i).toNat)
  case atStart => exact ⟨0, 0, Nat.zero_le _, Nat.le_refl _, rfl, ⟨_, _, rfl⟩, HR0.out⟩
  case round =>
    obtain ⟨k, f, hk, hf, rfl, ⟨fa, fc, rfl⟩, HV⟩ := hrel
    rename World => w1
    by_cases hlt : k < K.length
    · obtain ⟨W, V, R, F, hS, hWl, hVl, hW, hRo, hFu, hFl⟩ := HV.out.ex
      have hx0 : K[k]? = some K[k] := by simp [hlt]
      have hla := HL2.out K[k] (List.getElem_mem _)
      obtain ⟨⟨sy, ar, mk, po, tt⟩, hx⟩ : ∃ x, x = K[k] := ⟨_, rfl⟩
      rw [← hx] at hx0 hla
      simp only at hla
      obtain ⟨bl, off, c', aA, ac, e, a0, a1, a2, a3, a4, hRa, _⟩ := H.out.get hS.same k _ hx0
      injection e with e1 _ e2
      subst e1; subst e2
      simp only at a0 a1 a2 a3 a4 hRa
      have HRa := Lib.hid hRa; have HX := Lib.hid hx0; have HS := Lib.hid hS
      have HP : Hid (W.length = K.length ∧ V.length = K.length ∧ (∀ x ∈ W, 0 ≤ x ∧ x ≤ 6) ∧ RowsOk K.length (6 * k) R ∧ Under K.length F ∧ F.length = f) := ⟨hWl, hVl, hW, hRo, hFu, hFl⟩
      obtain ⟨D, hDe⟩ : ∃ D, D = down ⟨sy, ar, mk, po, tt⟩ := ⟨_, rfl⟩
      have HD : Hid (Under K.length D ∧ D.length ≤ 6) := by
        refine ⟨fun d hd => ?_, ?_⟩
        · rw [hDe] at hd; exact HI.out _ (List.mem_of_getElem? HX.out) d hd
        · rw [hDe]; unfold down; simp only; split
          · simp
          · exact hla
      have HDe := Lib.hid hDe
      have hk0 : (0 : Int) ≤ k := by omega
      have hk1 : (k : Int) < K.length := by omega
      clear hS hWl hVl hW hRo hFu hFl hx hRa hx0 hDe HV
      go_upto_if 31 with fail
      go_cut [8] (fun dv wx => ∃ dA dc, dv = .slice dA D.length dc ∧ Hid (RdS wx (Mid w.heap.size w1.heap.size) dv D ∧ Same w1 wx))
      case first =>
        have hs1 : Same w1 (w1.alloc (.cells #[.int .i64 sy, .slice aA ar.length ac, .int .i64 mk, .bool po, .int .i64 tt] 53)) := (Turned.refl _ _).alloc _
        have HS1 := Lib.hid hs1
        clear hs1
        cases po with
        | false =>
          have HE : Hid (D = ar) := HDe.out
          go_wp2_with fail
          go_meet
          exact ⟨aA, ac, by rw [HE.out], by rw [HE.out]; exact (HRa.out.mid _).same (HS.out.same.trans HS1.out (fun _ h => h.elim)), HS1.out⟩
        | true =>
          have HE : Hid (D = [tt]) := HDe.out
          go_wp2_with fail
          go_meet
          refine ⟨_, _, by rw [HE.out]; rfl, ?_, HS1.out.alloc _⟩
          have hb := Blk.new (w1.alloc (.cells #[.int .i64 sy, .slice aA ar.length ac, .int .i64 mk, .bool true, .int .i64 tt] 53)) 3 #[.int .i64 tt]
          rw [World.size_alloc] at hb
          rw [HE.out]
          exact rds_lit (P := [tt]) hb (fun h => by have := h.2; omega)
      case rest =>
        obtain ⟨dA, dc, rfl, HC⟩ := hcut
        clear a0 a1 a2 a3 a4
        have HS2 := Lib.hid (HS.out.later HC.out.2)
        have hwl := HS2.out.wants.lt
        have hwf := fun i => HS2.out.wants.frozen i
        obtain ⟨y, hy⟩ : ∃ y, W[k]? = some y := ⟨W[k]'(by rw [HP.out.1]; exact hlt), by simp⟩
        have hwc : wc.cell? ⟨gw, k, none⟩ = some (.int .i64 y) := by rw [HS2.out.wants.cell k]; simp [nInts, hy]
        have HS3 := Lib.hid (HS2.out.setWant k D.length)
        have HT3 : Hid (Turned (Mid w.heap.size w1.heap.size) wc (wc.setCell ⟨gw, k, none⟩ (.int .i64 D.length))) := Turned.setCell (Turned.refl _ _) (p := ⟨gw, k, none⟩) (.inl ⟨HS.out.nw, HS.out.wants.lt⟩) _
        have HV3 : Hid (∀ u ∈ V, ∀ j, u.ownBlock = some j → j < w1.heap.size ∨ wc.heap.size ≤ j) := fun u hu j hj => .inl (HS.out.rowLt u hu j hj)
        have hdl : D.length ≤ 6 := HD.out.2
        clear hy
        go_wp2_with fail
        clear hwl hwf hwc HS2
        go_loopw [42] (fun i wi => ∃ m : Nat, m ≤ D.length ∧ i = .int .i64 m ∧ Hid (Turned (Mid w.heap.size w1.heap.size) wc wi ∧ ∃ V R, RingS w wi gw ga (W.set k D.length) V R (.slice fa f fc) F ∧ V.length = K.length ∧ RowsOk K.length (6 * k + m) R ∧ ∀ u ∈ V, ∀ j, u.ownBlock = some j → j < w1.heap.size ∨ wc.heap.size ≤ j)) (fun i _ => D.length - (intOf i).toNat)
        case atStart => exact ⟨0, Nat.zero_le _, rfl, HT3.out, V, R, HS3.out, HP.out.2.1, HP.out.2.2.2.1, HV3.out⟩
        case round =>
          obtain ⟨m, hm, rfl, HV⟩ := hrel
          rename World => wi
          by_cases hlm : m < D.length
          · obtain ⟨hT, V1, R1, hS1, hV1, hRo1, hV2⟩ := HV.out
            have hRd := HC.out.1.keep hT
            obtain ⟨A2, c2, e, hA⟩ := hRd
            injection e with e1 _ e2
            subst e1; subst e2
            obtain ⟨dbl, doff, rfl, _, hc⟩ := hA (by omega)
            have hd := hc m hlm
            obtain ⟨a, ha, hal⟩ := HD.out.1 D[m] (List.getElem_mem _)
            rw [ha] at hd
            obtain ⟨u, hu⟩ : ∃ u, V1[a]? = some u := ⟨V1[a]'(by rw [hV1]; exact hal), by simp⟩
            obtain ⟨r, hr⟩ : ∃ r, R1[a]? = some r := ⟨R1[a]'(by rw [hS1.rl, hV1]; exact hal), by simp⟩
            have hca : wi.cell? ⟨ga, a, none⟩ = some u := by rw [hS1.above.cell a]; simp [hu]
            have hfa := fun i => hS1.above.frozen i
            have hla := hS1.above.lt
            have hrow := hS1.rows a u r hu hr
            have hrl := hRo1.few r (List.mem_of_getElem? hr)
            obtain ⟨ra, rc, rfl, _, _⟩ := own_shape hrow
            have HRow := Lib.hid hrow; have HS1 := Lib.hid hS1; have HUr : Hid (V1[a]? = some (.slice ra r.length rc) ∧ R1[a]? = some r ∧ V1.length = K.length ∧ RowsOk K.length (6 * k + m) R1) := ⟨hu, hr, hV1, hRo1⟩
            have HT := Lib.hid hT; have HV2 := Lib.hid hV2
            obtain ⟨rl, hrle⟩ : ∃ rl, rl = r.length := ⟨_, rfl⟩
            have HRl := Lib.hid hrle
            rw [← hrle] at hca hrl
            have hm0 : (0 : Int) ≤ m := by omega
            have hm1 : (m : Int) < D.length := by omega
            have ha0 : (0 : Int) ≤ a := by omega
            have ha1 : (a : Int) < K.length := by omega
            have hrl2 : rl ≤ 30000 := by omega
            clear hc hA ha hu hr hrow hS1 hV1 hRo1 hV2 hT HV hrle
            have HRow2 : Hid (wi.ownsRow 0 3 1 (.slice ra rl rc) rl (nInts r)) := by rw [HRl.out]; exact HRow.out
            go_upto_region 14 with fail
            go_wp2_with (at_builtin; go_loud (refine wpList_append_src _ rfl _ _ 26 rfl 3 i0 _ 1 8 Try.underlying26 HI0.out.1 HI0.out.2.1 HI0.out.2.2.1 HI0.out.2.2.2 rfl (by omega) (.slice ra rl rc) rl (nInts r) rfl (by exact World.ownsRow.alloc HRow2.out _) (some ⟨wi.heap.size, 0, none⟩) 1 1 (nInts [(k : Int)]) rfl (by simp [nInts]) (by exact fun _ => src_new wi (nInts [(k : Int)]) 3 (by omega)) (nInts_one _) (by unfold maxLen; omega) (by omega) ?_))
            intro a6 c6 w6 ho6 hg6 hat6
            have HPu := Lib.hid (HS1.out.pushRow (w1 := wi.alloc (.cells #[.int .i64 k] 3)) (x := (k : Int)) ((Turned.refl _ _).alloc _) HUr.out.1 HUr.out.2.1 (by rw [← HRl.out]; exact ho6) (by rw [← HRl.out]; exact hg6) (by rw [← HRl.out, World.size_alloc]; exact hat6))
            have k6 : w6.cell? ⟨ga, a, none⟩ = some (.slice ra rl rc) := (HPu.out.2.cell a).trans (by simp [HUr.out.1, HRl.out])
            have l6 := HPu.out.2.lt
            have f6 := fun i => HPu.out.2.frozen i
            have HT6 : Hid (Turned (Mid w.heap.size w1.heap.size) wc (w6.setCell ⟨ga, a, none⟩ (.slice a6 (rl + 1) c6))) := by
              have h1 : Turned (fun j => (Value.slice ra rl rc).ownBlock = some j) wi w6 := ((Turned.refl _ _).alloc (.cells #[.int .i64 k] 3)).grown hg6 (fun j hj => .inl hj)
              refine (HT.out.trans h1 (fun j hj => ?_)).setCell (p := ⟨ga, a, none⟩) (.inl ⟨HS.out.na, HS.out.above.lt⟩) _
              have h2 := HV2.out _ (List.mem_of_getElem? HUr.out.1) j (by rw [← HRl.out]; exact hj)
              have h3 := (HS1.out.nv _ (List.mem_of_getElem? HUr.out.1) j (by rw [← HRl.out]; exact hj)).1
              rcases h2 with h2 | h2
              · exact .inl ⟨h3, h2⟩
              · exact .inr h2
            have HV6 : Hid (∀ u ∈ V1.set a (.slice a6 (rl + 1) c6), ∀ j, u.ownBlock = some j → j < w1.heap.size ∨ wc.heap.size ≤ j) := by
              intro u hu j hj
              rcases List.mem_or_eq_of_mem_set hu with h1 | rfl
              · exact HV2.out u h1 j hj
              · rcases hat6 with e | e
                · exact HV2.out _ (List.mem_of_getElem? HUr.out.1) j (by rw [← HRl.out]; exact e.symm.trans hj)
                · have e2 := e.symm.trans hj
                  have h4 := HT.out.size
                  have : wi.heap.size + 1 = j := by simpa using e2
                  right; omega
            clear ho6 hg6 hat6
            go_wp2_with fail
            exact ⟨⟨m + 1, by omega, by go_num, HT6.out, _, _, HPu.out.1, by simp [HUr.out.2.2.1], (HUr.out.2.2.2.push HUr.out.2.1 hlt).mono (by omega), HV6.out⟩, by simp [intOf]; omega⟩
          · have hmm : m = D.length := by omega
            subst hmm
            obtain ⟨hT, V1, R1, hS1, hV1, hRo1, hV2⟩ := HV.out
            have HS1 := Lib.hid hS1
            have HUr : Hid (V1.length = K.length ∧ RowsOk K.length (6 * (k + 1)) R1) := ⟨hV1, hRo1.mono (by omega)⟩
            have HW : Hid ((W.set k (D.length : Int)).length = K.length ∧ ∀ x ∈ W.set k (D.length : Int), 0 ≤ x ∧ x ≤ 6) := by
              refine ⟨by simp [HP.out.1], fun x hx => ?_⟩
              rcases List.mem_or_eq_of_mem_set hx with h1 | rfl
              · exact HP.out.2.2.1 x h1
              · omega
            clear hT hS1 hV1 hRo1 hV2 HV
            by_cases hz : D.length = 0
            · have hzb : ((D.length : Int) == 0) = true := by rw [hz]; rfl
              have HF : Hid (wi.ownsRow 0 3 1 (.slice fa f fc) f (nInts F)) := by have h1 := HS1.out.free; rwa [HP.out.2.2.2.2.2] at h1
              clear hz
              go_wp2_with (at_builtin; go_loud (refine wpList_append_src _ rfl _ _ 26 rfl 3 i0 _ 1 8 Try.underlying26 HI0.out.1 HI0.out.2.1 HI0.out.2.2.1 HI0.out.2.2.2 rfl (by omega) (.slice fa f fc) f (nInts F) rfl (by exact World.ownsRow.alloc HF.out _) (some ⟨wi.heap.size, 0, none⟩) 1 1 (nInts [(k : Int)]) rfl (by simp [nInts]) (by exact fun _ => src_new wi (nInts [(k : Int)]) 3 (by omega)) (nInts_one _) (by unfold maxLen; omega) (by omega) ?_))
              intro a7 c7 w7 ho7 hg7 hat7
              have HN : Hid (Ring1 w w7 gw ga K.length (6 * (k + 1)) (.slice a7 (f + 1) c7) (f + 1)) := by
                have h1 := HS1.out.pushFree (w1 := wi.alloc (.cells #[.int .i64 k] 3)) (x := (k : Int)) ((Turned.refl _ _).alloc _) (by rw [HP.out.2.2.2.2.2]; exact ho7) hg7 (by rw [World.size_alloc]; exact hat7)
                exact ⟨_, _, _, _, h1, HW.out.1, HUr.out.1, HW.out.2, HUr.out.2, HP.out.2.2.2.2.1.snoc hlt, by simp [HP.out.2.2.2.2.2]⟩
              clear ho7 hg7 hat7
              go_wp2_with fail
              go_roundw
              case rel => exact ⟨k + 1, f + 1, by omega, by omega, by go_num, ⟨_, _, rfl⟩, HN.out⟩
              case measure => simp [intOf]; omega
            · have hzb : ((D.length : Int) == 0) = false := by rw [beq_eq_false_iff_ne]; omega
              clear hz
              have HN : Hid (Ring1 w wi gw ga K.length (6 * (k + 1)) (.slice fa f fc) f) := ⟨_, _, _, _, HS1.out, HW.out.1, HUr.out.1, HW.out.2, HUr.out.2, HP.out.2.2.2.2.1, HP.out.2.2.2.2.2⟩
              go_wp2_with fail
              go_roundw
              case rel => exact ⟨k + 1, f, by omega, by omega, by go_num, ⟨_, _, rfl⟩, HN.out⟩
              case measure => simp [intOf]; omega
    · have hkk : k = K.length := by omega
      subst hkk
      go_wp2_with fail
      have HV2 : Hid (Ring2 w w1 gw ga K.length (.slice fa f fc) f 0) := by
        obtain ⟨W, V, R, F, hS, hWl, hVl, hW, hRo, hFu, hFl⟩ := HV.out.ex
        refine ⟨W, V, R, F, hS, hWl, hVl, fun x hx => ?_, hRo.mono (by omega), hFu, hFl, ?_⟩
        · have := hW x hx; omega
        · have := potL_le W 6 (fun x hx => (hW x hx).2)
          rw [hWl] at this
          omega
      have hf30 : f ≤ 30000 := by omega
      clear HV
      go_loopw [5, 11] (fun fv gv wr => ∃ f g : Nat, f ≤ 30000 ∧ g ≤ 30000 ∧ gv = .int .i64 g ∧ (∃ fa fc, fv = .slice fa f fc) ∧ Hid (Ring2 w wr gw ga K.length fv f g)) (fun fv _ wr => potW wr gw + (match fv with | .slice _ n _ => n | _ => 0))
      case atStart => exact ⟨f, 0, hf30, Nat.zero_le _, rfl, ⟨_, _, rfl⟩, HV2.out⟩
      case round =>
        obtain ⟨f1, g, hf1, hg, rfl, ⟨fb, fd, rfl⟩, HV⟩ := hrel
        rename World => w2
        cases f1 with
        | zero =>
          have HS0 : Hid (Same w w2) := by obtain ⟨W, V, R, F, hS, _⟩ := HV.out.ex; exact hS.same
          go_wp2_with fail
          go_ret
          exact ⟨⟨_, rfl⟩, HS0.out⟩
        | succ f1 =>
          obtain ⟨W, V, R, F, hS, hWl, hVl, hW, hRo, hFu, hFl, hpot⟩ := HV.out.ex
          obtain ⟨F1, x, hFe, hF1⟩ : ∃ F1 x, F = F1 ++ [x] ∧ F1.length = f1 := by
            rcases List.eq_nil_or_concat F with e | ⟨F1, x, e⟩
            · rw [e] at hFl; simp at hFl
            · refine ⟨F1, x, by rw [e, List.concat_eq_append], ?_⟩
              rw [e] at hFl; simp at hFl; exact hFl
          subst hFe
          obtain ⟨hS1, q, rfl, htop, hcap⟩ := hS.popFree hF1
          obtain ⟨j, rfl, hj⟩ := hFu x (by simp)
          obtain ⟨u, hu⟩ : ∃ u, V[j]? = some u := ⟨V[j]'(by rw [hVl]; exact hj), by simp⟩
          obtain ⟨r, hr⟩ : ∃ r, R[j]? = some r := ⟨R[j]'(by rw [hS.rl, hVl]; exact hj), by simp⟩
          have hca : w2.cell? ⟨ga, j, none⟩ = some u := by rw [hS1.above.cell j]; simp [hu]
          have hrow := hS1.rows j u r hu hr
          have hrl := hRo.few r (List.mem_of_getElem? hr)
          obtain ⟨ra, rc, rfl, _, _⟩ := own_shape hrow
          obtain ⟨rl, hrle⟩ : ∃ rl, rl = r.length := ⟨_, rfl⟩
          have HRl := Lib.hid hrle
          rw [← hrle] at hca hrl
          have HI2 : Hid (RingIn w w2 gw ga K.length V R (.slice (some ⟨q, 0, none⟩) f1 fd) f1 (-(30000 * (g : Int))) (potL W + f1)) := ⟨W, F1, hS1, hWl, hW, fun d hd => hFu d (by simp [hd]), hF1, Nat.le_refl _⟩
          have HUr : Hid (V[j]? = some (.slice ra r.length rc) ∧ R[j]? = some r ∧ V.length = K.length ∧ RowsOk K.length 24000 R ∧ potW w2 gw = potL W) := ⟨hu, hr, hVl, hRo, potW_blk hS.wants⟩
          have hj0 : (0 : Int) ≤ j := by omega
          have hj1 : (j : Int) < K.length := by omega
          obtain ⟨pw, hpw⟩ : ∃ pw, pw = potL W := ⟨_, rfl⟩
          rw [← hpw] at HI2 HUr hpot
          clear hS hWl hVl hW hRo hFu hFl hS1 hu hr hrow hrle hpw HV
          go_wp2_with fail
          go_loopw [5, 86] (fun fv i wi => ∃ f2 t : Nat, f2 ≤ 30000 ∧ t ≤ rl ∧ i = .int .i64 t ∧ (∃ fa fc, fv = .slice fa f2 fc) ∧ Hid (RingIn w wi gw ga K.length V R fv f2 (-(30000 * (g : Int)) - t) (pw + f1))) (fun _ i _ => rl - (intOf i).toNat)
          case atStart => exact ⟨f1, 0, by omega, Nat.zero_le _, rfl, ⟨_, _, rfl⟩, by rw [show -(30000 * (g : Int)) - ((0 : Nat) : Int) = -(30000 * (g : Int)) from by omega]; exact HI2.out⟩
          case round =>
            obtain ⟨f2, t, hf2, ht, rfl, ⟨fe, fg, rfl⟩, HV⟩ := hrel
            rename World => wi
            by_cases hlt : t < rl
            · obtain ⟨W2, F2, hS, hWl, hW, hFu, hFl, hpo⟩ := HV.out
              have hrow := hS.rows j _ r HUr.out.1 HUr.out.2.1
              obtain ⟨A2, c2, e, hA⟩ := own_rd hrow
              injection e with e1 _ e2
              subst e1; subst e2
              obtain ⟨rb, roff, rfl, hc⟩ := hA (by rw [← HRl.out]; omega)
              have hd := hc t (by rw [← HRl.out]; exact hlt)
              obtain ⟨i, hi, hil⟩ := HUr.out.2.2.2.1.inn r (List.mem_of_getElem? HUr.out.2.1) _ (List.getElem_mem (by rw [← HRl.out]; exact hlt))
              rw [hi] at hd
              obtain ⟨y, hy⟩ : ∃ y, W2[i]? = some y := ⟨W2[i]'(by rw [hWl]; exact hil), by simp⟩
              have hyb := hW y (List.mem_of_getElem? hy)
              have hwc : wi.cell? ⟨gw, i, none⟩ = some (.int .i64 y) := by rw [hS.wants.cell i]; simp [nInts, hy]
              have hwl := hS.wants.lt
              have hwf := fun i => hS.wants.frozen i
              have HSs := Lib.hid (hS.setWant i (y - 1))
              have HPl := Lib.hid (potL_set W2 i y hy)
              have HWn : Hid ((W2.set i (y - 1)).length = K.length ∧ (∀ x ∈ W2.set i (y - 1), -(30000 * (g : Int)) - ((t + 1 : Nat) : Int) ≤ x ∧ x ≤ 6) ∧ Under K.length F2 ∧ F2.length = f2 ∧ potL W2 + f2 ≤ pw + f1) := by
                refine ⟨by simp [hWl], fun x hx => ?_, hFu, hFl, hpo⟩
                rcases List.mem_or_eq_of_mem_set hx with h1 | rfl
                · have := hW x h1; omega
                · omega
              have ht0 : (0 : Int) ≤ t := by omega
              have ht1 : (t : Int) < rl := by omega
              have hi0 : (0 : Int) ≤ i := by omega
              have hi1 : (i : Int) < K.length := by omega
              have hy1 : (-1000000000 : Int) ≤ y := by omega
              have hy2 : y ≤ 6 := by omega
              clear hS hWl hW hFu hFl hpo hrow hA hc hi hy hyb HV
              by_cases hyz : y = 1
              · have hzb : (y - 1 == 0) = true := by rw [beq_iff_eq]; omega
                have HF : Hid ((wi.setCell ⟨gw, i, none⟩ (.int .i64 (y - 1))).ownsRow 0 3 1 (.slice fe f2 fg) f2 (nInts F2)) := by have h1 := HSs.out.free; rwa [HWn.out.2.2.2.1] at h1
                have HY := Lib.hid hyz
                clear hyz
                go_wp2_with (at_builtin; go_loud (refine wpList_append_src _ rfl _ _ 26 rfl 3 i0 _ 1 8 Try.underlying26 HI0.out.1 HI0.out.2.1 HI0.out.2.2.1 HI0.out.2.2.2 rfl (by omega) (.slice fe f2 fg) f2 (nInts F2) rfl (by exact World.ownsRow.alloc HF.out _) (some ⟨wi.heap.size, 0, none⟩) 1 1 (nInts [(i : Int)]) rfl (by simp [nInts]) (by have h1 := src_new (wi.setCell ⟨gw, i, none⟩ (.int .i64 (y - 1))) (nInts [(i : Int)]) 3; rw [show (wi.setCell ⟨gw, i, none⟩ (.int .i64 (y - 1))).heap.size = wi.heap.size from by simp [World.setCell]] at h1; exact fun _ => h1 (by omega)) (nInts_one _) (by unfold maxLen; omega) (by omega) ?_))
                intro a7 c7 w7 ho7 hg7 hat7
                have HN : Hid (RingIn w w7 gw ga K.length V R (.slice a7 (f2 + 1) c7) (f2 + 1) (-(30000 * (g : Int)) - ((t + 1 : Nat) : Int)) (pw + f1)) := by
                  have h1 := HSs.out.pushFree (w1 := (wi.setCell ⟨gw, i, none⟩ (.int .i64 (y - 1))).alloc (.cells #[.int .i64 i] 3)) (x := (i : Int)) ((Turned.refl _ _).alloc _) (by rw [HWn.out.2.2.2.1]; exact ho7) hg7 (by rw [World.size_alloc, show (wi.setCell ⟨gw, i, none⟩ (.int .i64 (y - 1))).heap.size = wi.heap.size from by simp [World.setCell]]; exact hat7)
                  refine ⟨_, _, h1, HWn.out.1, HWn.out.2.1, HWn.out.2.2.1.snoc hil, by simp [HWn.out.2.2.2.1], ?_⟩
                  have h1 := HPl.out; have h2 := HWn.out.2.2.2.2; have h3 := HY.out
                  rw [if_pos (by omega)] at h1
                  omega
                have hf3 : f2 + 1 ≤ 30000 := by
                  have h1 := HPl.out; have h2 := HWn.out.2.2.2.2; have h3 := HY.out
                  rw [if_pos (by omega)] at h1
                  omega
                clear ho7 hg7 hat7
                go_wp2_with fail
                exact ⟨⟨f2 + 1, t + 1, hf3, by omega, by go_num, ⟨_, _, rfl⟩, HN.out⟩, by simp [intOf]; omega⟩
              · have hzb : (y - 1 == 0) = false := by rw [beq_eq_false_iff_ne]; omega
                have HN : Hid (RingIn w (wi.setCell ⟨gw, i, none⟩ (.int .i64 (y - 1))) gw ga K.length V R (.slice fe f2 fg) f2 (-(30000 * (g : Int)) - ((t + 1 : Nat) : Int)) (pw + f1)) := by
                  refine ⟨_, F2, HSs.out, HWn.out.1, HWn.out.2.1, HWn.out.2.2.1, HWn.out.2.2.2.1, ?_⟩
                  have h1 := HPl.out; have h2 := HWn.out.2.2.2.2
                  split at h1 <;> omega
                clear hyz
                go_wp2_with fail
                exact ⟨⟨f2, t + 1, hf2, by omega, by go_num, ⟨_, _, rfl⟩, HN.out⟩, by simp [intOf]; omega⟩
            · have htt : t = rl := by omega
              subst htt
              obtain ⟨W2, F2, hS, hWl, hW, hFu, hFl, hpo⟩ := HV.out
              have HN : Hid (Ring2 w wi gw ga K.length (.slice fe f2 fg) f2 (g + 1)) := ⟨W2, V, R, F2, hS, hWl, HUr.out.2.2.1, fun x hx => by have := hW x hx; omega, HUr.out.2.2.2.1, hFu, hFl, by omega⟩
              have HMs : Hid (potW wi gw + f2 < potW w2 gw + (f1 + 1)) := by
                have h1 := potW_blk hS.wants
                have h2 := HUr.out.2.2.2.2
                unfold Hid
                omega
              have hg1 : g + 1 ≤ 30000 := by omega
              clear hS hWl hW hFu hFl hpo HV
              go_wp2_with fail
              go_roundw
              case rel => exact ⟨f2, g + 1, hf2, hg1, by go_num, ⟨_, _, rfl⟩, HN.out⟩
              case measure => exact HMs.out
end Go.Proofs.Yteohhiefchoamaa
