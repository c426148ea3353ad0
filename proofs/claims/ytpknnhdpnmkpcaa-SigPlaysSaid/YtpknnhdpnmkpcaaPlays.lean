/-
  The walk of SigPlays: a script in memory; every step of it; at the end both ranged once more.
-/
import Derived.Test.YtpknnhdpnmkpcaaTwo
import Derived.StillTailTactics
namespace Go.Proofs.Ytpknnhdpnmkpcaa
open Go.RowKit

/-- A slice value that reads as a script, in blocks below B. -/
def SOld (w : World) (B : Nat) (v : Value) (O : List OpD) : Prop :=
  (∀ o ∈ O, o.x.name.size ≤ maxLen ∧ I64 o.on ∧ I64 o.n) ∧
  ∃ A c, v = .slice A O.length c ∧ (0 < O.length → ∃ bl off, A = some ⟨bl, off, none⟩ ∧ bl < B ∧ ∀ k (h : k < O.length), w.cell? ⟨bl, off + k * 6, none⟩ = some (.int .i64 O[k].on) ∧ w.cell? ⟨bl, off + k * 6 + 1, none⟩ = some (.int .i64 O[k].kind) ∧
    w.cell? ⟨bl, off + k * 6 + 2, none⟩ = some (.int .i64 O[k].n) ∧ w.cell? ⟨bl, off + k * 6 + 3, none⟩ = some (.string O[k].x.name) ∧ w.cell? ⟨bl, off + k * 6 + 4, none⟩ = some (.int .i64 O[k].x.arity) ∧ w.cell? ⟨bl, off + k * 6 + 5, none⟩ = some (.bool O[k].x.defd))

theorem alloc_set {w : World} {o : Obj} {b i : Nat} {u : Value} (h : b < w.heap.size) : (w.alloc o).setCell ⟨b, i, none⟩ u = (w.setCell ⟨b, i, none⟩ u).alloc o := World.setCell_alloc_past o b i u h
/-- Some such pair of pairs. -/
def TWx (w wr : World) (gl gr : Nat) : Prop := ∃ b0 m0 v0 r0 u0 L0 b1 m1 v1 r1 u1 L1, TW w wr gl gr b0 m0 v0 r0 u0 L0 b1 m1 v1 r1 u1 L1
theorem TWx.low {w wr : World} {gl gr : Nat} (h : TWx w wr gl gr) : Below w.heap.size w wr := by
  obtain ⟨_, _, _, _, _, _, _, _, _, _, _, _, h⟩ := h
  exact h.low

theorem TW.start {w w1 w2 w3 : World} {a am b bm : Nat} (h1 : Same w w1) (h2 : SigAt w2 a am (.slice none 0 0) []) (t2 : Same w1 w2) (ha : w1.heap.size ≤ a) (ham : w1.heap.size ≤ am)
    (h3 : SigAt w3 b bm (.slice none 0 0) []) (t3 : Same w2 w3) (hb : w2.heap.size ≤ b) (hbm : w2.heap.size ≤ bm) :
    TW w ((((w3.alloc (.cells #[ptr a, ptr b] 24)).alloc (.cells #[.slice none 0 0] 42)).alloc (.cells #[.slice none 0 0] 42)).alloc (.cells #[ptr (w3.heap.size + 1), ptr (w3.heap.size + 2)] 40)) w3.heap.size (w3.heap.size + 3)
      a am (.slice none 0 0) (w3.heap.size + 1) (.slice none 0 0) [] b bm (.slice none 0 0) (w3.heap.size + 2) (.slice none 0 0) [] := by
  have nb : ∀ k, (Value.slice none 0 0).ownBlock ≠ some k := fun k e => by simp [Value.ownBlock] at e
  have z1 := h1.size
  have z2 := t2.size
  have z3 := t3.size
  have la : ∀ k, foot a am (.slice none 0 0) k → k < w2.heap.size := foot_lt h2
  have lb : ∀ k, foot b bm (.slice none 0 0) k → k < w3.heap.size := foot_lt h3
  have fa : ∀ k, foot a am (.slice none 0 0) k → w1.heap.size ≤ k := fun k hk => by
    rcases hk with rfl | rfl | hk
    · exact ha
    · exact ham
    · exact (nb k hk).elim
  have fb : ∀ k, foot b bm (.slice none 0 0) k → w2.heap.size ≤ k := fun k hk => by
    rcases hk with rfl | rfl | hk
    · exact hb
    · exact hbm
    · exact (nb k hk).elim
  have fr : ∀ r k, rfoot r (.slice none 0 0) k → k = r := fun r k hk => by
    rcases hk with hk | hk
    · exact hk
    · exact (nb k hk).elim
  have T : ∀ (S : Nat → Prop), Turned S w3 ((((w3.alloc (.cells #[ptr a, ptr b] 24)).alloc (.cells #[.slice none 0 0] 42)).alloc (.cells #[.slice none 0 0] 42)).alloc (.cells #[ptr (w3.heap.size + 1), ptr (w3.heap.size + 2)] 40)) := fun S => ((((Turned.refl S w3).alloc _).alloc _).alloc _).alloc _
  have T0 : Same w w3 := (h1.trans t2 (fun _ h => h.elim)).trans t3 (fun _ h => h.elim)
  have B0 := Blk.new w3 24 #[ptr a, ptr b]
  have B1 := Blk.new (w3.alloc (.cells #[ptr a, ptr b] 24)) 42 #[.slice none 0 0]
  have B2 := Blk.new ((w3.alloc (.cells #[ptr a, ptr b] 24)).alloc (.cells #[.slice none 0 0] 42)) 42 #[.slice none 0 0]
  have B3 := Blk.new (((w3.alloc (.cells #[ptr a, ptr b] 24)).alloc (.cells #[.slice none 0 0] 42)).alloc (.cells #[.slice none 0 0] 42)) 40 #[ptr (w3.heap.size + 1), ptr (w3.heap.size + 2)]
  simp only [World.size_alloc] at B1 B2 B3
  refine ⟨Turned.below (T0.trans (T (fun _ => False)) (fun _ h => h.elim)) (Nat.le_refl _) (fun _ h => h.elim), ⟨(h2.turned t3 (fun _ _ h => h)).turned (T (fun _ => False)) (fun _ _ h => h), ⟨(B1.alloc _).alloc _, World.ownsRow_nil _ _ _ _⟩, good_nil, fun k hk hk2 => ?_⟩,
    ⟨h3.turned (T (fun _ => False)) (fun _ _ h => h), ⟨B2.alloc _, World.ownsRow_nil _ _ _ _⟩, good_nil, fun k hk hk2 => ?_⟩, fun k hk hk2 => ?_, fun k hk => ?_, fun k hk => ?_, ((B0.alloc _).alloc _).alloc _, B3, by omega, by omega⟩
  · have := la k hk; have := fr _ k hk2; omega
  · have := lb k hk; have := fr _ k hk2; omega
  · rcases hk with hk | hk <;> rcases hk2 with hk2 | hk2
    · have := la k hk; have := fb k hk2; omega
    · have := la k hk; have := fr _ k hk2; omega
    · have := lb k hk2; have := fr _ k hk; omega
    · have := fr _ k hk; have := fr _ k hk2; omega
  · rcases hk with hk | hk
    · have := la k hk; have := fa k hk; exact ⟨by omega, by omega, by omega⟩
    · have := fr _ k hk; exact ⟨by omega, by omega, by omega⟩
  · rcases hk with hk | hk
    · have := lb k hk; have := fb k hk; exact ⟨by omega, by omega, by omega⟩
    · have := fr _ k hk; exact ⟨by omega, by omega, by omega⟩

set_option maxRecDepth 100000 in
set_option maxHeartbeats 8000000 in
theorem plays_law (w : World) (sv : Value) (O : List OpD) (hO : SOld w w.heap.size sv O) (hl : O.length * 56 ≤ 140737488351232) :
    Calls Try.prog 6 #[sv] w fun e w' => e = .returned (.bool true) ∧ Below w.heap.size w w' := by
  have HO := Lib.hid hO
  obtain ⟨hO1, A, c, rfl, hA⟩ := hO
  have HO1 := Lib.hid hO1; have HA := Lib.hid hA
  clear hO1 hA HO
  obtain ⟨i0, hi0, hz0, hz1, hz2⟩ := info_parts Try.info31
  have HI : Hid (Try.prog.info? 31 = some i0 ∧ i0.zero = some (.agg #[.string ⟨#[]⟩, .int .i64 0, .bool false]) ∧ i0.size = 3 ∧ i0.bytes = 32) := ⟨hi0, hz0, hz1, hz2⟩
  clear hi0 hz0 hz1 hz2
  go_enter Try.func6, Try.ntmps6
  go_wp2_with fail
  refine (awake_any _).mono ?_
  rintro e w1 ⟨rfl, h1⟩
  have H1 := Lib.hid h1
  clear h1
  go_wp2_with fail
  refine (new_any _).mono ?_
  rintro e w2 ⟨a, am, rfl, h2, t2, ha, ham⟩
  have H2 := Lib.hid h2; have T2 := Lib.hid t2; have HAa := Lib.hid ha; have HAm := Lib.hid ham
  clear h2 t2 ha ham
  go_wp2_with fail
  refine (new_any _).mono ?_
  rintro e w3 ⟨b, bm, rfl, h3, t3, hb, hbm⟩
  have HS := Lib.hid (TW.start H1.out H2.out T2.out HAa.out HAm.out h3 t3 hb hbm)
  clear h3 t3 hb hbm H1 H2 T2 HAa HAm
  -- THE LOOP
  go_wp2_with fail
  have HV0 : Hid (TWx w ((((w3.alloc (.cells #[ptr a, ptr b] 24)).alloc (.cells #[.slice none 0 0] 42)).alloc (.cells #[.slice none 0 0] 42)).alloc (.cells #[ptr (w3.heap.size + 1), ptr (w3.heap.size + 1 + 1)] 40)) w3.heap.size (w3.heap.size + 1 + 1 + 1)) := ⟨_, _, _, _, _, _, _, _, _, _, _, _, HS.out⟩
  obtain ⟨W, hW⟩ : ∃ W, W = ((((w3.alloc (.cells #[ptr a, ptr b] 24)).alloc (.cells #[.slice none 0 0] 42)).alloc (.cells #[.slice none 0 0] 42)).alloc (.cells #[ptr (w3.heap.size + 1), ptr (w3.heap.size + 1 + 1)] 40)) := ⟨_, rfl⟩
  rw [← hW] at HV0 ⊢
  obtain ⟨gr, hgr⟩ : ∃ gr, gr = w3.heap.size + 1 + 1 + 1 := ⟨_, rfl⟩
  rw [← hgr] at HV0 ⊢
  clear hW hgr HS
  obtain ⟨gl, hgl⟩ : ∃ gl, gl = w3.heap.size := ⟨_, rfl⟩
  rw [← hgl] at HV0 ⊢
  clear hgl
  go_loopw [8] (fun i wr => ∃ k : Nat, k ≤ O.length ∧ i = .int .i64 k ∧ Hid (TWx w wr gl gr)) (fun i _ => O.length - (intOf i).toNat)
  case atStart => exact ⟨0, Nat.zero_le _, rfl, HV0.out⟩
  case round =>
    clear HV0
    obtain ⟨k, hk, rfl, HV⟩ := hrel
    by_cases hlt : k < O.length
    · obtain ⟨bl, off, rfl, hbl, hc⟩ := HA.out (by omega)
      obtain ⟨q0, q1, q2, q3, q4, q5⟩ := hc k hlt
      obtain ⟨hnm, hon, hn⟩ := HO1.out O[k] (List.getElem_mem _)
      obtain ⟨o, ho⟩ : ∃ o, o = O[k] := ⟨_, rfl⟩
      rw [← ho] at q0 q1 q2 q3 q4 q5 hnm hon hn
      have hnm := Lib.hid hnm; have hn := Lib.hid hn
      have hlow := HV.out.low
      have d0 := (hlow.cell (p := ⟨bl, off + k * 6, none⟩) hbl).trans q0
      have d1 := (hlow.cell (p := ⟨bl, off + k * 6 + 1, none⟩) hbl).trans q1
      have d2 := (hlow.cell (p := ⟨bl, off + k * 6 + 2, none⟩) hbl).trans q2
      have d3 := (hlow.cell (p := ⟨bl, off + k * 6 + 3, none⟩) hbl).trans q3
      have d4 := (hlow.cell (p := ⟨bl, off + k * 6 + 4, none⟩) hbl).trans q4
      have d5 := (hlow.cell (p := ⟨bl, off + k * 6 + 5, none⟩) hbl).trans q5
      have hk0 : (0 : Int) ≤ k := by omega
      have hk1 : (k : Int) < O.length := by omega
      clear hc ho hlow q0 q2 q3 q4 q5
      rcases pick2 o.on hon with hpk | hpk
      · have HP : Hid (∀ W, Calls Try.prog 17 #[.int .i64 o.on, .int .i64 2] W fun e w' => e = .returned (.int .i64 0) ∧ w' = W) := fun W => by rw [← hpk]; exact pick_any W o.on 2 hon (.inl rfl)
        clear hpk hon
        obtain ⟨b0, m0, v0, r0, u0, L0, b1, m1, v1, r1, u1, L1, hT⟩ := HV.out
        have HT := Lib.hid hT
        have HTd : Hid (TW w wr.drew gl gr b0 m0 v0 r0 u0 L0 b1 m1 v1 r1 u1 L1) := hT.below (below_drewN (Below.refl _ wr) 1)
        have g0 : wr.cell? ⟨gl, 0, none⟩ = some (ptr b0) := (hT.bl.cell 0).trans rfl
        have s0 : wr.cell? ⟨gr, 0, none⟩ = some (ptr r0) := (hT.br.cell 0).trans rfl
        clear hT HV
        go_wp2_with fail
        refine (HP.out _).mono ?_
        rintro e w' ⟨rfl, hw'⟩
        rw [hw']
        clear hw'
        go_wp2_with fail
        go_still_tail 12, (by kernel_rfl)
        change wpList _ _ _ _ _ wr.drew
        go_wp2_with fail
        refine (step_any (o := o) HTd.out.p0 hnm.out hn.out).mono ?_
        rintro e w6 ⟨rfl, hd⟩
        obtain ⟨v6, u6, L6, h6⟩ := HTd.out.did0 hd
        have HV6 := Lib.hid h6
        have e1 := (h6.low.cell (p := ⟨bl, off + k * 6 + 1, none⟩) hbl).trans q1
        clear hd h6 d0 d1 d2 d3 d4 d5 g0 s0
        by_cases hk6 : o.kind = 6
        · rw [hk6] at e1
          have g1 : w6.cell? ⟨gl, 0, none⟩ = some (ptr b0) := (HV6.out.bl.cell 0).trans rfl
          go_wp2_with fail
          refine (copy_any w6 b0 m0 v6 L6 HV6.out.p0.sig HV6.out.p0.good).mono ?_
          rintro e w7 ⟨c7, cm, x7, rfl, hs7, t7, hf7⟩
          have hb7 := HV6.out.bl.turned t7 (fun h => h)
          have hr7 := HV6.out.br.turned t7 (fun h => h)
          have hp7 := HV6.out.p0.ref.turned_ t7 (fun _ _ h => h)
          obtain ⟨ua, uc, hu6, _, _⟩ := own_shape hp7.own
          subst hu6
          have hne := HV6.out.ne
          have hrne : r0 ≠ gl := (HV6.out.h0 r0 (.inr (.inl rfl))).2.1
          have hune : ∀ k, (Value.slice ua L6.length uc).ownBlock = some k → k ≠ gl := fun k hk => (HV6.out.h0 k (.inr (.inr hk))).2.1
          have c0 : w7.cell? ⟨gl, 1, none⟩ = some (ptr b1) := (hb7.cell 1).trans rfl
          have f0 : w7.frozen? ⟨gl, 1, none⟩ = false := hb7.frozen 1
          have k1 : (w7.setCell ⟨gl, 1, none⟩ (ptr c7)).cell? ⟨gr, 0, none⟩ = some (ptr r0) := ((hr7.far (p := ⟨gl, 1, none⟩) (by simp; omega) _).cell 0).trans rfl
          have k2 : (w7.setCell ⟨gl, 1, none⟩ (ptr c7)).cell? ⟨r0, 0, none⟩ = some (.slice ua L6.length uc) := ((hp7.blk.far (p := ⟨gl, 1, none⟩) (by simp; omega) _).cell 0).trans rfl
          have l1 := hr7.lt
          have l2 := hp7.blk.lt
          have hrow : Hid ((w7.setCell ⟨gl, 1, none⟩ (ptr c7)).ownsRow 0 31 3 (.slice ua L6.length uc) L6.length (symCells L6)) := World.ownsRow.turned hp7.own (S := fun k => k = gl) (Turned.setCell (S := fun k => k = gl) (Turned.refl _ w7) (p := ⟨gl, 1, none⟩) (.inl rfl) _) (fun k hk e => hune k hk e)
          have HB7 := Lib.hid hb7; have HR7 := Lib.hid hr7; have HS7 := Lib.hid hs7; have HT7 := Lib.hid t7; have HF7 := Lib.hid hf7; have HNE := Lib.hid hne
          have h64 := HS7.out.few
          clear hb7 hr7 hp7 hs7 t7 hf7 hune hrne hne
          have HZ : Hid ((w7.setCell ⟨gl, 1, none⟩ (ptr c7)).heap.size = w7.heap.size) := by unfold Hid; simp [World.setCell]
          have HW : Hid (((w7.setCell ⟨gl, 1, none⟩ (ptr c7)).alloc (.cells #[] 31)).ownsRow 0 31 3 (.slice (some ⟨w7.heap.size, 0, none⟩) 0 0) 0 []) := by
            have := World.ownsRow_made (base := 0) (e := 31) (size := 3) (w7.setCell ⟨gl, 1, none⟩ (ptr c7)) #[] 0 (Nat.zero_le _) (Nat.zero_le _) rfl
            rw [HZ.out] at this; exact this
          have HSrc : Hid (0 < L6.length → ∃ ad, ua = some ad ∧ ∀ j u, (symCells L6)[j]? = some u → ((w7.setCell ⟨gl, 1, none⟩ (ptr c7)).alloc (.cells #[] 31)).cell? (ad.add j) = some u) := fun h0 => by
            obtain ⟨g, cap, hv, _, hg⟩ := hrow.out.form h0
            obtain ⟨rfl, rfl⟩ : ua = some ⟨g, 0, none⟩ ∧ uc = cap := by simpa using hv
            refine ⟨_, rfl, fun j u hu => ?_⟩
            rw [← hrow.out.cells (g := g) rfl j u hu]
            exact World.cell?_alloc_lt _ _ _ (by simpa [Addr.add_lit] using hg)
          go_wp2_with (first
          | (at_builtin; refine wpList_append_src _ rfl _ _ 23 rfl 31 i0 _ 3 32 Try.underlying23 HI.out.1 HI.out.2.1 HI.out.2.2.1 HI.out.2.2.2 rfl (by decide) _ 0 [] rfl HW.out _ L6.length uc (symCells L6) rfl (symCells_length L6) HSrc.out sym_one (by unfold maxLen; omega) (by omega) ?_
             intro a' c' w9 hown9 hgrow9 hat9
             rw [Nat.zero_add, List.nil_append] at hown9
             rw [Nat.zero_add] at hat9
             have hT9 : Same (w7.setCell ⟨gl, 1, none⟩ (ptr c7)) w9 := ((Turned.refl _ _).alloc _).grown hgrow9 (fun k hk => .inr (by rw [HZ.out]; exact Nat.le_of_eq (Option.some.inj hk)))
             have hfr9 : ∀ k, (Value.slice a' L6.length c').ownBlock = some k → w7.heap.size ≤ k := fun k hk => by
               rcases hat9 with h3 | h3
               · exact Nat.le_of_eq (Option.some.inj (h3.symm.trans hk))
               · have := Option.some.inj (h3.symm.trans hk)
                 have hz := HZ.out
                 simp at this; omega
             have HC := Lib.hid (HV6.out.copy (c := c7) (i := 1) HV6.out.p0 HV6.out.h0 HT7.out HS7.out HF7.out hT9 hown9 hfr9)
             have hbr9 : Blk w9 gr 40 #[ptr r0, ptr r1] := (HR7.out.far (p := ⟨gl, 1, none⟩) HNE.out.symm _).turned hT9 (fun h => h)
             have z0 : w9.cell? ⟨gr, 1, none⟩ = some (ptr r1) := (hbr9.cell 1).trans rfl
             have zf : w9.frozen? ⟨gr, 1, none⟩ = false := hbr9.frozen 1
             have zl := hbr9.lt
             clear hown9 hgrow9 hat9 hT9 hfr9 hbr9))
          obtain ⟨low, hp, hq, hap, hh, hbl2, hbr2⟩ := HC.out
          have HN : Hid (TWx w _ gl gr) := ⟨_, _, _, _, _, _, _, _, _, _, _, _, ⟨low, hp, hq, hap, HV6.out.h0, hh, hbl2, hbr2, HV6.out.hl, HV6.out.hr⟩⟩
          rw [alloc_set zl] at HN
          clear low hp hq hap hh hbl2 hbr2 HC
          go_roundw
          case rel => exact ⟨k + 1, by omega, by go_num, HN⟩
          case measure => simp [intOf]; omega
        · have hk6' : (o.kind == 6) = false := by rw [beq_eq_false_iff_ne]; exact hk6
          go_wp2_with fail
          go_roundw
          case rel => exact ⟨k + 1, by omega, by go_num, ⟨_, _, _, _, _, _, _, _, _, _, _, _, HV6.out⟩⟩
          case measure => simp [intOf]; omega
      · have HP : Hid (∀ W, Calls Try.prog 17 #[.int .i64 o.on, .int .i64 2] W fun e w' => e = .returned (.int .i64 1) ∧ w' = W) := fun W => by rw [← hpk]; exact pick_any W o.on 2 hon (.inl rfl)
        clear hpk hon
        obtain ⟨b0, m0, v0, r0, u0, L0, b1, m1, v1, r1, u1, L1, hT⟩ := HV.out
        have HT := Lib.hid hT
        have HTd : Hid (TW w wr.drew gl gr b0 m0 v0 r0 u0 L0 b1 m1 v1 r1 u1 L1) := hT.below (below_drewN (Below.refl _ wr) 1)
        have g1 : wr.cell? ⟨gl, 1, none⟩ = some (ptr b1) := (hT.bl.cell 1).trans rfl
        have s1 : wr.cell? ⟨gr, 1, none⟩ = some (ptr r1) := (hT.br.cell 1).trans rfl
        clear hT HV
        go_wp2_with fail
        refine (HP.out _).mono ?_
        rintro e w' ⟨rfl, hw'⟩
        rw [hw']
        clear hw'
        go_wp2_with fail
        go_still_tail 12, (by kernel_rfl)
        change wpList _ _ _ _ _ wr.drew
        go_wp2_with fail
        refine (step_any (o := o) HTd.out.p1 hnm.out hn.out).mono ?_
        rintro e w6 ⟨rfl, hd⟩
        obtain ⟨v6, u6, L6, h6⟩ := HTd.out.did1 hd
        have HV6 := Lib.hid h6
        have e1 := (h6.low.cell (p := ⟨bl, off + k * 6 + 1, none⟩) hbl).trans q1
        clear hd h6 d0 d1 d2 d3 d4 d5 g1 s1
        by_cases hk6 : o.kind = 6
        · rw [hk6] at e1
          have g1 : w6.cell? ⟨gl, 1, none⟩ = some (ptr b1) := (HV6.out.bl.cell 1).trans rfl
          go_wp2_with fail
          refine (copy_any w6 b1 m1 v6 L6 HV6.out.p1.sig HV6.out.p1.good).mono ?_
          rintro e w7 ⟨c7, cm, x7, rfl, hs7, t7, hf7⟩
          have hb7 := HV6.out.bl.turned t7 (fun h => h)
          have hr7 := HV6.out.br.turned t7 (fun h => h)
          have hp7 := HV6.out.p1.ref.turned_ t7 (fun _ _ h => h)
          obtain ⟨ua, uc, hu6, _, _⟩ := own_shape hp7.own
          subst hu6
          have hne := HV6.out.ne
          have hrne : r1 ≠ gl := (HV6.out.h1 r1 (.inr (.inl rfl))).2.1
          have hune : ∀ k, (Value.slice ua L6.length uc).ownBlock = some k → k ≠ gl := fun k hk => (HV6.out.h1 k (.inr (.inr hk))).2.1
          have c0 : w7.cell? ⟨gl, 0, none⟩ = some (ptr b0) := (hb7.cell 0).trans rfl
          have f0 : w7.frozen? ⟨gl, 0, none⟩ = false := hb7.frozen 0
          have k1 : (w7.setCell ⟨gl, 0, none⟩ (ptr c7)).cell? ⟨gr, 1, none⟩ = some (ptr r1) := ((hr7.far (p := ⟨gl, 0, none⟩) (by simp; omega) _).cell 1).trans rfl
          have k2 : (w7.setCell ⟨gl, 0, none⟩ (ptr c7)).cell? ⟨r1, 0, none⟩ = some (.slice ua L6.length uc) := ((hp7.blk.far (p := ⟨gl, 0, none⟩) (by simp; omega) _).cell 0).trans rfl
          have l1 := hr7.lt
          have l2 := hp7.blk.lt
          have hrow : Hid ((w7.setCell ⟨gl, 0, none⟩ (ptr c7)).ownsRow 0 31 3 (.slice ua L6.length uc) L6.length (symCells L6)) := World.ownsRow.turned hp7.own (S := fun k => k = gl) (Turned.setCell (S := fun k => k = gl) (Turned.refl _ w7) (p := ⟨gl, 0, none⟩) (.inl rfl) _) (fun k hk e => hune k hk e)
          have HB7 := Lib.hid hb7; have HR7 := Lib.hid hr7; have HS7 := Lib.hid hs7; have HT7 := Lib.hid t7; have HF7 := Lib.hid hf7; have HNE := Lib.hid hne
          have h64 := HS7.out.few
          clear hb7 hr7 hp7 hs7 t7 hf7 hune hrne hne
          have HZ : Hid ((w7.setCell ⟨gl, 0, none⟩ (ptr c7)).heap.size = w7.heap.size) := by unfold Hid; simp [World.setCell]
          have HW : Hid (((w7.setCell ⟨gl, 0, none⟩ (ptr c7)).alloc (.cells #[] 31)).ownsRow 0 31 3 (.slice (some ⟨w7.heap.size, 0, none⟩) 0 0) 0 []) := by
            have := World.ownsRow_made (base := 0) (e := 31) (size := 3) (w7.setCell ⟨gl, 0, none⟩ (ptr c7)) #[] 0 (Nat.zero_le _) (Nat.zero_le _) rfl
            rw [HZ.out] at this; exact this
          have HSrc : Hid (0 < L6.length → ∃ ad, ua = some ad ∧ ∀ j u, (symCells L6)[j]? = some u → ((w7.setCell ⟨gl, 0, none⟩ (ptr c7)).alloc (.cells #[] 31)).cell? (ad.add j) = some u) := fun h0 => by
            obtain ⟨g, cap, hv, _, hg⟩ := hrow.out.form h0
            obtain ⟨rfl, rfl⟩ : ua = some ⟨g, 0, none⟩ ∧ uc = cap := by simpa using hv
            refine ⟨_, rfl, fun j u hu => ?_⟩
            rw [← hrow.out.cells (g := g) rfl j u hu]
            exact World.cell?_alloc_lt _ _ _ (by simpa [Addr.add_lit] using hg)
          go_wp2_with (first
          | (at_builtin; refine wpList_append_src _ rfl _ _ 23 rfl 31 i0 _ 3 32 Try.underlying23 HI.out.1 HI.out.2.1 HI.out.2.2.1 HI.out.2.2.2 rfl (by decide) _ 0 [] rfl HW.out _ L6.length uc (symCells L6) rfl (symCells_length L6) HSrc.out sym_one (by unfold maxLen; omega) (by omega) ?_
             intro a' c' w9 hown9 hgrow9 hat9
             rw [Nat.zero_add, List.nil_append] at hown9
             rw [Nat.zero_add] at hat9
             have hT9 : Same (w7.setCell ⟨gl, 0, none⟩ (ptr c7)) w9 := ((Turned.refl _ _).alloc _).grown hgrow9 (fun k hk => .inr (by rw [HZ.out]; exact Nat.le_of_eq (Option.some.inj hk)))
             have hfr9 : ∀ k, (Value.slice a' L6.length c').ownBlock = some k → w7.heap.size ≤ k := fun k hk => by
               rcases hat9 with h3 | h3
               · exact Nat.le_of_eq (Option.some.inj (h3.symm.trans hk))
               · have := Option.some.inj (h3.symm.trans hk)
                 have hz := HZ.out
                 simp at this; omega
             have HC := Lib.hid (HV6.out.copy (c := c7) (i := 0) HV6.out.p1 HV6.out.h1 HT7.out HS7.out HF7.out hT9 hown9 hfr9)
             have hbr9 : Blk w9 gr 40 #[ptr r0, ptr r1] := (HR7.out.far (p := ⟨gl, 0, none⟩) HNE.out.symm _).turned hT9 (fun h => h)
             have z0 : w9.cell? ⟨gr, 0, none⟩ = some (ptr r0) := (hbr9.cell 0).trans rfl
             have zf : w9.frozen? ⟨gr, 0, none⟩ = false := hbr9.frozen 0
             have zl := hbr9.lt
             clear hown9 hgrow9 hat9 hT9 hfr9 hbr9))
          obtain ⟨low, hp, hq, hap, hh, hbl2, hbr2⟩ := HC.out
          have HN : Hid (TWx w _ gl gr) := ⟨_, _, _, _, _, _, _, _, _, _, _, _, ⟨low, hq, hp, fun k h1 h2 => hap k h2 h1, hh, HV6.out.h1, hbl2, hbr2, HV6.out.hl, HV6.out.hr⟩⟩
          rw [alloc_set zl] at HN
          clear low hp hq hap hh hbl2 hbr2 HC
          go_roundw
          case rel => exact ⟨k + 1, by omega, by go_num, HN⟩
          case measure => simp [intOf]; omega
        · have hk6' : (o.kind == 6) = false := by rw [beq_eq_false_iff_ne]; exact hk6
          go_wp2_with fail
          go_roundw
          case rel => exact ⟨k + 1, by omega, by go_num, ⟨_, _, _, _, _, _, _, _, _, _, _, _, HV6.out⟩⟩
          case measure => simp [intOf]; omega
    · obtain rfl : k = O.length := by omega
      obtain ⟨b0, m0, v0, r0, u0, L0, b1, m1, v1, r1, u1, L1, hT⟩ := HV.out
      have HTd : Hid (TW w wr.drew gl gr b0 m0 v0 r0 u0 L0 b1 m1 v1 r1 u1 L1) := hT.below (below_drewN (Below.refl _ wr) 1)
      have g0 : wr.cell? ⟨gl, 0, none⟩ = some (ptr b0) := (hT.bl.cell 0).trans rfl
      have s0 : wr.cell? ⟨gr, 0, none⟩ = some (ptr r0) := (hT.br.cell 0).trans rfl
      have n0 : wr.cell? ⟨r0, 0, none⟩ = some u0 := (hT.p0.ref.blk.cell 0).trans rfl
      obtain ⟨ua, uc, rfl, _, _⟩ := own_shape hT.p0.ref.own
      clear hT HV
      go_wp2_with fail
      go_still_tail 9, (by kernel_rfl)
      change wpList _ _ _ _ _ wr.drew
      go_wp2_with fail
      refine (ranged_any _ b0 m0 v0 _ L0 HTd.out.p0.sig (SymRd.of_own HTd.out.p0.ref.own) 1).mono ?_
      rintro e w6 ⟨rfl, hb6⟩
      have h6 := HTd.out.below hb6
      have HT6 : Hid (TW w w6.drew gl gr b0 m0 v0 r0 (.slice ua L0.length uc) L0 b1 m1 v1 r1 u1 L1) := h6.below (below_drewN (Below.refl _ w6) 1)
      have g1 : w6.cell? ⟨gl, 1, none⟩ = some (ptr b1) := (h6.bl.cell 1).trans rfl
      have s1 : w6.cell? ⟨gr, 1, none⟩ = some (ptr r1) := (h6.br.cell 1).trans rfl
      have n1 : w6.cell? ⟨r1, 0, none⟩ = some u1 := (h6.p1.ref.blk.cell 0).trans rfl
      obtain ⟨ya, yc, rfl, _, _⟩ := own_shape h6.p1.ref.own
      clear h6 hb6 HTd g0 s0 n0
      go_wp2_with fail
      go_still_tail 9, (by kernel_rfl)
      change wpList _ _ _ _ _ w6.drew
      go_wp2_with fail
      refine (ranged_any _ b1 m1 v1 _ L1 HT6.out.p1.sig (SymRd.of_own HT6.out.p1.ref.own) 1).mono ?_
      rintro e w7 ⟨rfl, hb7⟩
      have HF := Lib.hid (below_below HT6.out.low hb7)
      clear hb7 HT6 g1 s1 n1
      go_wp2_with fail
      go_ret
      exact ⟨rfl, HF.out⟩
end Go.Proofs.Ytpknnhdpnmkpcaa
