/-
  The walk of lay.
-/
import Derived.Test.YteohhiefchoamaaLay
import Derived.Laws.Runes
namespace Go.Proofs.Yteohhiefchoamaa
open Go.RowKit

theorem arN_at {L : List Sym} {n : Nat} {x : Sym} (h : L[n]? = some x) : arN L (n : Int) = x.arity.toNat := by
  unfold arN
  rw [if_neg (by omega)]
  simp [h]

set_option maxRecDepth 100000 in
set_option maxHeartbeats 8000000 in
theorem lay_any (w : World) (bs bm : Nat) (vs : Value) (L : List Sym) (hs : SigAt w bs bm vs L) (hL : ∀ x ∈ L, 0 ≤ x.arity ∧ x.arity ≤ 6) (b : Nat) (room : Int) (v : Value) (N : List NV) (h : HeapAt w b room v N) (hr4 : room ≤ 4000) (P : List (Int × Int)) (lv hv : Value)
    (hl : RdS w (hfoot b v) lv (P.map (·.1))) (hh : HandAt w (hfoot b v) hv P) (hP : Well L 1 (P.map (·.1))) (hS : ∀ x ∈ P, x.1 < L.length) (hH : ∀ x ∈ P, x.1 < 0 → ∃ j : Nat, x.2 = (j : Int) ∧ j < N.length) (hfit : ((N.length + syms P : Nat) : Int) ≤ room) (hlen : P.length ≤ 4398046511104) :
    Calls Try.prog 52 #[.pointer (some ⟨bs, 0, none⟩), .pointer (some ⟨b, 0, none⟩), lv, hv] w fun e w' => ∃ v' M a, (layF L N.length P).1 = [a] ∧ e = .returned (.tuple #[.int .i64 a, .nilIface]) ∧ HeapAt w' b room v' (N ++ M) ∧ M.map (·.1) = (layF L N.length P).2 ∧ Turned (hfoot b v) w w' ∧ (v'.ownBlock = v.ownBlock ∨ ∃ j, v'.ownBlock = some j ∧ w.heap.size ≤ j) := by
  have HS := Lib.hid hs; have HL := Lib.hid hL; have H := Lib.hid h; have HLv := Lib.hid hl; have HHv := Lib.hid hh; have HP := Lib.hid hP; have HSy := Lib.hid hS; have HHd := Lib.hid hH; have HFit := Lib.hid hfit; have HLen := Lib.hid hlen
  have HAp := Lib.hid (sig_apart hs h)
  obtain ⟨lA, lc, rfl, hl2⟩ := hl
  obtain ⟨hA, hn, hc, rfl, hh2⟩ := hh
  have hpl : (P.map (·.1)).length = P.length := by simp
  rw [hpl]
  have hP0 : 0 < P.length := by
    cases P with
    | nil => simp [Well] at hP
    | cons x r => simp
  obtain ⟨i0, hi0, hz0, hz1, hz2⟩ := info_parts info3
  have HI : Hid (Try.prog.info? 3 = some i0 ∧ i0.zero = some (.int .i64 0) ∧ i0.size = 1 ∧ i0.bytes = 8) := ⟨hi0, hz0, hz1, hz2⟩
  clear hi0 hz0 hz1 hz2 hs hL h hl2 hh2 hP hS hH hfit hpl
  have hw0 : IntKind.i64.wrap ((P.length : Int) - 1) = (P.length : Int) - 1 := wrap_small _ (by omega) (by omega)
  go_enter Try.func52, Try.ntmps52
  go_wp2_with fail
  go_loopw [10, 11] (fun st i wr => ∃ k : Nat, k ≤ P.length ∧ i = .int .i64 ((k : Int) - 1) ∧ Hid (∃ v' M, LayI w wr b room v N L P k st v' M)) (fun _ i _ => (intOf i + 1).toNat)
  case atStart =>
    refine ⟨P.length, Nat.le_refl _, ?_, v, [], ?_⟩
    · first | rfl | (rw [hw0])
    · have e : layF L N.length (P.drop P.length) = ([], []) := by rw [List.drop_length]; rfl
      exact ⟨by simpa using H.out, by rw [e]; rfl, by rw [e]; exact World.ownsRow_nil _ _ _ _, Turned.refl _ _, .inl rfl, fun j hj => by simp [Value.ownBlock] at hj⟩
  case round =>
    obtain ⟨k, hk, rfl, HV⟩ := hrel
    rename World => wo
    obtain ⟨v1, M, hI⟩ := HV.out
    have HI1 := Lib.hid hI
    clear hI HV
    cases k with
    | zero =>
      have hw := layF_len L N.length P 1 HP.out
      obtain ⟨a, ha⟩ : ∃ a, (layF L N.length P).1 = [a] := by
        match (layF L N.length P).1, hw with
        | [a], _ => exact ⟨a, rfl⟩
      have hst := HI1.out.st
      rw [List.drop_zero, ha] at hst
      obtain ⟨g, cap, rfl, _, _⟩ := hst.form (by simp)
      have c0 := row_cell hst (j := 0) (u := .int .i64 a) (by simp [nInts])
      simp only [List.length_cons, List.length_nil, Nat.zero_add] at hst
      have HAl := Lib.hid ha
      have e1 : ((0 : Nat) : Int) - 1 = -1 := by omega
      rw [e1]
      simp only [List.length_cons, List.length_nil, Nat.zero_add]
      clear hw ha hst e1
      go_wp2_with fail
      go_ret2
      have hms := HI1.out.ms
      rw [List.drop_zero] at hms
      exact ⟨v1, M, a, HAl.out, rfl, HI1.out.hp, hms, HI1.out.tur, HI1.out.vown⟩
    | succ m =>
      have hm0 : (0 : Int) ≤ m := by omega
      have hm1 : (m : Int) < P.length := by omega
      have hmP : m < P.length := by omega
      have e1 : ((m + 1 : Nat) : Int) - 1 = m := by omega
      rw [e1]
      clear e1
      obtain ⟨lA2, lc2, ea, hlc⟩ := HLv.out.keep HI1.out.tur
      injection ea with e1 _ e2
      subst e1; subst e2
      obtain ⟨bl, off, rfl, _, hcl⟩ := hlc (by simp; omega)
      have hd := hcl m (by simpa using hmP)
      simp only [List.getElem_map] at hd
      have hdrop : P.drop m = P[m] :: P.drop (m + 1) := List.drop_eq_getElem_cons hmP
      have HX := Lib.hid (HSy.out P[m] (List.getElem_mem _))
      have HHx : Hid (P[m].1 < 0 → ∃ j : Nat, P[m].2 = (j : Int) ∧ j < N.length) := HHd.out P[m] (List.getElem_mem _)
      have HHm : Hid (∃ A n c, Value.slice hA hn hc = .slice A n c ∧ (P[m].1 < 0 → m < n ∧ ∃ bl off, A = some ⟨bl, off, none⟩ ∧ wo.cell? ⟨bl, off + m, none⟩ = some (.int .i64 P[m].2))) := by
        obtain ⟨A, n, c, e, h1⟩ := HHv.out.keep HI1.out.tur
        exact ⟨A, n, c, e, fun hn => by
          obtain ⟨h2, bl, off, e2, _, hc⟩ := h1 m hmP hn
          exact ⟨h2, bl, off, e2, hc⟩⟩
      obtain ⟨⟨n, hd2⟩, hx⟩ : ∃ x, x = P[m] := ⟨_, rfl⟩
      rw [← hx] at hd hdrop HX HHx HHm
      simp only at hd HX HHx HHm
      have HDrop := Lib.hid hdrop
      clear hx hdrop hcl hlc
      have hstl := own_shape HI1.out.st
      obtain ⟨sa, sc, rfl, _, _⟩ := hstl
      have HSig := Lib.hid (HS.out.turned HI1.out.tur HAp.out)
      obtain ⟨stk, hstk⟩ : ∃ stk, stk = (layF L N.length (P.drop (m + 1))).1 := ⟨_, rfl⟩
      obtain ⟨M1, hM1⟩ : ∃ M1, M1 = (layF L N.length (P.drop (m + 1))).2 := ⟨_, rfl⟩
      have HI2 : Hid (HeapAt wo b room v1 (N ++ M) ∧ M.map (·.1) = M1 ∧ wo.ownsRow 0 3 1 (.slice sa stk.length sc) stk.length (nInts stk.reverse) ∧ ∀ j, (Value.slice sa stk.length sc).ownBlock = some j → w.heap.size ≤ j ∧ ¬ ablocks (N ++ M) j) := by
        rw [hstk, hM1]
        exact ⟨HI1.out.hp, HI1.out.ms, HI1.out.st, HI1.out.snew⟩
      have HT1 := Lib.hid HI1.out.tur
      have HVo := Lib.hid HI1.out.vown
      have HNeg : Hid (n < 0 → layF L N.length (P.drop m) = (hd2 :: stk, M1)) := fun hn => by rw [HDrop.out, layF_cons_neg L _ hn, hstk, hM1]
      have HPos : Hid (¬ n < 0 → layF L N.length (P.drop m) = (((N.length + M1.length : Nat) : Int) :: stk.drop (arN L n), M1 ++ [⟨n, stk.take (arN L n), 0, false, 0⟩])) := fun hn => by rw [HDrop.out, layF_cons_pos L _ hn, hstk, hM1]
      rw [← hstk]
      have hsl' : stk.length ≤ 4398046511104 := by rw [hstk]; have h1 := layF_le L N.length (P.drop (m + 1)); have h2 := HLen.out; simp at h1; omega
      have HEn : Hid (arN L n ≤ stk.length) := by rw [hstk]; exact layF_enough L N.length HP.out HDrop.out
      have HStk := Lib.hid hstk; have HM1 := Lib.hid hM1
      clear hstk hM1
      by_cases hn0 : n < 0
      · obtain ⟨A, hn', hc', e, h1⟩ := HHm.out
        injection e with e1 e2 e3
        subst e1; subst e2; subst e3
        obtain ⟨hmn, bl2, off2, rfl, hc2⟩ := h1 hn0
        have hmn1 : (m : Int) < hn := by omega
        have HN := Lib.hid (HNeg.out hn0)
        clear h1 hmn
        go_wp2_with (at_builtin; go_loud (refine wpList_append_src _ rfl _ _ 26 rfl 3 i0 _ 1 8 Try.underlying26 HI.out.1 HI.out.2.1 HI.out.2.2.1 HI.out.2.2.2 rfl (by omega) (.slice sa stk.length sc) stk.length (nInts stk.reverse) rfl (by exact World.ownsRow.alloc HI2.out.2.2.1 _) (some ⟨wo.heap.size, 0, none⟩) 1 1 (nInts [hd2]) rfl (by simp [nInts]) (by exact fun _ => src_new wo (nInts [hd2]) 3 (by omega)) (nInts_one _) (by unfold maxLen; omega) (by omega) ?_))
        intro a' c' w' ho' hg' hat'
        have hsp := stack_push HT1.out HI2.out.1 HI2.out.2.2.1 HI2.out.2.2.2 ((Turned.refl _ wo).alloc _) hg' (by simpa using hat')
        have HN2 : Hid (LayI w w' b room v N L P m (.slice a' (stk.length + 1) c') v1 M) := by
          refine ⟨hsp.1, by rw [HN.out]; exact HI2.out.2.1, ?_, hsp.2.1, HVo.out, hsp.2.2⟩
          rw [HN.out]
          have : nInts (hd2 :: stk).reverse = nInts stk.reverse ++ nInts [hd2] := by simp [nInts]
          rw [this]; exact ho'
        clear ho' hg' hat' hsp
        go_wp2_with fail
        go_roundw
        case rel => exact ⟨m, by omega, by go_num, v1, M, HN2.out⟩
        case measure => simp [intOf]
      · obtain ⟨p, rfl⟩ : ∃ p : Nat, n = (p : Int) := ⟨n.toNat, by omega⟩
        have hpL : p < L.length := by have := HX.out; omega
        obtain ⟨x, hx⟩ : ∃ x, L[p]? = some x := ⟨L[p], List.getElem?_eq_getElem hpL⟩
        have hxa := HL.out x (List.mem_of_getElem? hx)
        have har := arN_at hx
        obtain ⟨q, hq⟩ : ∃ q : Nat, x.arity = (q : Int) := ⟨x.arity.toNat, by omega⟩
        have har2 : arN L (p : Int) = q := by rw [har, hq]; simp
        have HEn2 : Hid (q ≤ stk.length) := by have := HEn.out; rw [har2] at this; exact this
        have HPos2 := HPos.out hn0
        rw [har2] at HPos2
        have HPo := Lib.hid HPos2
        have HXx := Lib.hid hx
        have hq6 : q ≤ 6 := by omega
        have hval : Hid (∀ W, SigAt W bs bm vs L → Calls Try.prog 76 #[.pointer (some ⟨bs, 0, none⟩), .int .i64 p] W fun e w' => e = .returned (.tuple #[.agg #[.string x.name, .int .i64 q, .bool x.defd], .int .i64 0]) ∧ Same W w') := by
          intro W hW
          have := sig_at W bs bm vs L hW p x hx
          rwa [hq] at this
        clear hpL hx hxa har hq har2 HPos2
        go_wp2_with fail
        refine (hval.out _ HSig.out).mono ?_
        rintro e w1 ⟨rfl, hs1⟩
        obtain ⟨W1, hW1⟩ : ∃ W1, W1 = w1.alloc (.cells #[.string x.name, .int .i64 q, .bool x.defd] 84) := ⟨_, rfl⟩
        have hB84 : Blk W1 w1.heap.size 84 #[.string x.name, .int .i64 q, .bool x.defd] := by rw [hW1]; exact Blk.new w1 84 _
        have z1 : W1.cell? ⟨w1.heap.size, 1, none⟩ = some (.int .i64 q) := (hB84.cell 1).trans rfl
        have hS1 : Same wo W1 := by rw [hW1]; exact hs1.alloc _
        have HS1 := Lib.hid hS1
        have HW1 := Lib.hid hW1
        have HB84 := Lib.hid hB84
        have zl := hB84.lt
        clear hs1 hS1 hW1 hB84
        have hsl2 : stk.length ≤ 4398046511104 := hsl'
        go_wp2_with (first | rw [← HW1.out])
        go_loopw [10, 14, 47] (fun sv av cv wi => ∃ m2 t : Nat, m2 ≤ q ∧ t ≤ 4398046511104 ∧ cv = .int .i64 m2 ∧ (∃ qa qc, av = .slice qa m2 qc) ∧ sv = .slice sa t sc ∧ Hid (m2 + t = stk.length ∧ InI W1 wi sa sc stk m2 t av)) (fun _ _ c _ => q - (intOf c).toNat)
        case atStart => exact ⟨0, stk.length, Nat.zero_le _, hsl2, rfl, ⟨none, 0, rfl⟩, rfl, by omega, Turned.refl _ _, by rw [List.drop_zero]; exact World.ownsRow.turned HI2.out.2.2.1 HS1.out (fun _ _ h => h), by simp, by rw [List.take_zero]; exact World.ownsRow_nil _ _ _ _, fun j hj => by simp [Value.ownBlock] at hj⟩
        case round =>
          obtain ⟨m2, t, hm2, ht, rfl, ⟨qa, qc, rfl⟩, rfl, HIn⟩ := hrel
          by_cases hlt : m2 < q
          · have htp : 0 < t := by have := HIn.out.1; have := HEn2.out; omega
            obtain ⟨t', rfl⟩ : ∃ t', t = t' + 1 := ⟨t - 1, by omega⟩
            have hin := HIn.out.2
            obtain ⟨sg, cap, hv, _, _⟩ := hin.st.form (by omega)
            obtain ⟨rfl, rfl⟩ : sa = some ⟨sg, 0, none⟩ ∧ sc = cap := by simpa using hv
            have hms : m2 < stk.length := by have := HIn.out.1; omega
            obtain ⟨y, hy⟩ : ∃ y, stk[m2]? = some y := ⟨stk[m2], List.getElem?_eq_getElem hms⟩
            have hdr : stk.drop m2 = y :: stk.drop (m2 + 1) := by
              obtain ⟨_, e⟩ := List.getElem?_eq_some_iff.1 hy
              rw [← e]; exact List.drop_eq_getElem_cons hms
            have hll := hin.len
            rw [hdr, List.length_cons] at hll
            have hcell := row_cell hin.st (j := t') (u := .int .i64 y) (by
              rw [hdr, List.reverse_cons, show nInts ((stk.drop (m2 + 1)).reverse ++ [y]) = nInts (stk.drop (m2 + 1)).reverse ++ nInts [y] from by simp [nInts]]
              have hlr : (nInts (stk.drop (m2 + 1)).reverse).length = t' := by simp only [nInts, List.length_map, List.length_reverse]; omega
              rw [List.getElem?_append_right (by omega), hlr, Nat.sub_self]; rfl)
            have HY := Lib.hid hy
            have hcap : t' + 1 ≤ sc := by
              obtain ⟨ax, cx, ex, h1, _⟩ := own_shape hin.st
              have : sc = cx := by injection ex
              omega
            have HSl : Hid (sg < W1.heap.size) := by
              have h1 := (HI2.out.2.2.1.lt sg rfl).2
              have h2 := HS1.out.size
              unfold Hid; omega
            have HAr := Lib.hid hin.ar
            have hk0 : (0 : Int) ≤ m2 := by omega
            have hk1 : (m2 : Int) < q := by omega
            have hk2 : (0 : Int) ≤ t' := by omega
            have hk3 : (t' : Int) < (t' : Int) + 1 := by omega
            clear hin hv hy hdr hll hms htp
            go_wp2_with (at_builtin; go_loud (refine wpList_append_src _ rfl _ _ 26 rfl 3 i0 _ 1 8 Try.underlying26 HI.out.1 HI.out.2.1 HI.out.2.2.1 HI.out.2.2.2 rfl (by omega) (.slice qa m2 qc) m2 (nInts (stk.take m2)) rfl (by exact World.ownsRow.alloc HAr.out _) (some ⟨wr.heap.size, 0, none⟩) 1 1 (nInts [y]) rfl (by simp [nInts]) (by exact fun _ => src_new wr (nInts [y]) 3 (by omega)) (nInts_one _) (by unfold maxLen; omega) (by omega) ?_))
            intro a' c' w' ho' hg' hat'
            have HN2 : Hid (InI W1 w' (some ⟨sg, 0, none⟩) sc stk (m2 + 1) t' (.slice a' (m2 + 1) c')) := HIn.out.2.step HY.out HSl.out ((Turned.refl _ _).alloc _) ho' hg' (by simpa using hat')
            have HEq : Hid (m2 + 1 + t' = stk.length) := by have := HIn.out.1; unfold Hid; omega
            clear ho' hg' hat' hcell
            go_wp2_with fail
            all_goals
              go_roundw
              case rel => exact ⟨m2 + 1, t', by omega, by omega, by go_num, ⟨a', c', rfl⟩, rfl, HEq.out, HN2.out⟩
              case measure => simp [intOf]; omega
          · have hmq : m2 = q := by omega
            subst hmq
            have hin := HIn.out.2
            have hSw : Same wo wr := HS1.out.trans hin.same (fun _ h => h.elim)
            have HSw := Lib.hid hSw
            have hHp := HI2.out.1.same hSw
            have HHp := Lib.hid hHp
            have HTw : Hid (Turned (hfoot b v) w wr) := HT1.out.trans hSw (fun _ h => h.elim)
            have hML : M.length = M1.length := by have := congrArg List.length HI2.out.2.1; simpa using this
            have hNL : (N ++ M).length = N.length + M1.length := by rw [List.length_append, hML]
            have HML := Lib.hid hML
            have hsy := layF_syms L N.length (P.drop (m + 1))
            rw [← HM1.out] at hsy
            have hsy2 : syms (P.drop m) = M1.length + 1 := by
              have h1 := layF_syms L N.length (P.drop m)
              rw [HPo.out] at h1
              simp at h1
              omega
            have HRoom : Hid (((N ++ M).length : Int) < room) := by
              have h1 := syms_drop P m
              have h2 := HFit.out
              unfold Hid; rw [hNL]; omega
            have HArgs : Hid (∀ d ∈ stk.take m2, ∃ j : Nat, d = (j : Int) ∧ j < (N ++ M).length) := by
              intro d hd
              have h1 := layF_in L N.length (P.drop (m + 1)) (fun x hx => HHd.out x (List.mem_of_mem_drop hx)) d (by rw [← HStk.out]; exact List.mem_of_mem_take hd)
              rw [← HM1.out] at h1
              rw [hNL]; exact h1
            have hA6 : (stk.take m2).length = m2 := by rw [List.length_take]; exact Nat.min_eq_left HEn2.out
            have HA6 := Lib.hid hA6
            have HRd : Hid (Rd wr (.slice qa m2 qc) (stk.take m2)) := by
              refine ⟨qa, qc, by rw [hA6], fun h0 => ?_⟩
              obtain ⟨g, cap, hv, _, _⟩ := hin.ar.form (by omega)
              obtain ⟨rfl, rfl⟩ : qa = some ⟨g, 0, none⟩ ∧ qc = cap := by simpa using hv
              exact ⟨g, 0, rfl, fun k hk => by rw [Nat.zero_add]; exact row_cell hin.ar (j := k) (by simp only [nInts, List.getElem?_map, List.getElem?_eq_getElem hk, Option.map_some])⟩
            have hlcell : wr.cell? ⟨bl, off + m, none⟩ = some (.int .i64 p) := (hSw.cell (p := ⟨bl, off + m, none⟩) (World.block_lt_of_cell? _ _ hd) (fun h => h)).trans hd
            have HSt := Lib.hid hin.st
            have HLt := Lib.hid hin.len
            clear hin hSw hHp hML hNL hsy hsy2 hA6
            go_wp2_with fail
            refine (make_ok _ b room v1 (N ++ M) HHp.out p (by omega) _ (stk.take m2) HRd.out (by have := HA6.out; omega) HArgs.out HRoom.out hr4).mono ?_
            rintro e w2 ⟨v2, q2, rfl, hH2, ht2, hv2, hq2⟩
            have HMk : Hid (HeapAt w2 b room v2 ((N ++ M) ++ [(⟨p, stk.take m2, 0, false, 0⟩, .slice (some ⟨q2, 0, none⟩) (stk.take m2).length (stk.take m2).length)]) ∧ Turned (hfoot b v1) wr w2 ∧ (v2.ownBlock = v1.ownBlock ∨ ∃ j, v2.ownBlock = some j ∧ wr.heap.size ≤ j) ∧ wr.heap.size ≤ q2) := ⟨hH2, ht2, hv2, hq2⟩
            have HSt2 := Lib.hid (World.ownsRow.turned HSt.out ht2 (fun k hk hf => hap_own_ne HHp.out HSt.out k hk hf))
            clear hH2 ht2 hv2 hq2
            go_wp2_with fail
            refine (is_not _ 0 111 (by decide)).mono ?_
            rintro e w3 ⟨rfl, rfl⟩
            go_wp2_with (at_builtin; go_loud (refine wpList_append_src _ rfl _ _ 26 rfl 3 i0 _ 1 8 Try.underlying26 HI.out.1 HI.out.2.1 HI.out.2.2.1 HI.out.2.2.2 rfl (by omega) (.slice sa t sc) t (nInts (stk.drop m2).reverse) rfl (by exact World.ownsRow.alloc HSt2.out _) (some ⟨w2.heap.size, 0, none⟩) 1 1 (nInts [((N.length : Int) + (M.length : Int))]) rfl (by simp [nInts]) (by exact fun _ => src_new w2 (nInts [((N.length : Int) + (M.length : Int))]) 3 (by omega)) (nInts_one _) (by unfold maxLen; omega) (by omega) ?_))
            intro a' c' w' ho' hg' hat'
            have HFin : Hid (LayI w w' b room v N L P m (.slice a' (t + 1) c') v2 (M ++ [(⟨p, stk.take m2, 0, false, 0⟩, .slice (some ⟨q2, 0, none⟩) (stk.take m2).length (stk.take m2).length)])) :=
              LayI.made HTw.out HVo.out HHp.out HSt.out (fun j hj => HI2.out.2.2.2 j (by cases sa <;> exact hj)) HMk.out.2.2.2 HMk.out.1 HMk.out.2.1 HMk.out.2.2.1 ho' hg' (by simpa using hat') (by rw [HPo.out, HI2.out.2.1, HML.out]) HLt.out
            clear ho' hg' hat'
            go_wp2_with fail
            go_roundw
            case rel => exact ⟨m, by omega, by go_num, _, _, HFin.out⟩
            case measure => simp [intOf]
end Go.Proofs.Yteohhiefchoamaa
