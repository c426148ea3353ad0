/-
  The walk of GraftFull.
-/
import Derived.Test.YteohhiefchoamaaFullI
namespace Go.Proofs.Yteohhiefchoamaa
open Go.RowKit

set_option maxRecDepth 100000 in
set_option maxHeartbeats 8000000 in
theorem full_law (w : World) (vX vt : Value) (X : List Sym) (t : List Int) (hX : SymRd w vX X) (hs : ∀ x ∈ X, x.name.size ≤ maxLen) (hl : X.length ≤ 17592186044416) (hR : Rd w vt t) (htl : t.length ≤ 17592186044416) (ahead : Int) (ha1 : -9223372036854775808 ≤ ahead) (ha2 : ahead ≤ 9223372036854775807) (less : Bool) :
    Calls Try.prog 6 #[vX, vt, .int .i64 ahead, .bool less] w fun e w' => e = .returned (.bool true) ∧ Same w w' := by
  have HX := Lib.hid hX; have HSz := Lib.hid hs; have HL := Lib.hid hl; have HR := Lib.hid hR; have HTl := Lib.hid htl
  obtain ⟨XA, xc, rfl, _⟩ := hX
  obtain ⟨tA, tc, rfl, _⟩ := hR
  obtain ⟨i0, hi0, hz0, hz1, hz2⟩ := info_parts info78
  have HI : Hid (Try.prog.info? 78 = some i0 ∧ i0.zero = some (.agg #[.int .i64 0, .slice none 0 0]) ∧ i0.size = 2 ∧ i0.bytes = 32) := ⟨hi0, hz0, hz1, hz2⟩
  clear hs hi0 hz0 hz1 hz2
  go_enter Try.func6, Try.ntmps6
  go_wp2_with fail
  refine (awake_any _).mono ?_
  rintro e w0 ⟨rfl, hs0⟩
  have HS0 := Lib.hid hs0
  clear hs0
  go_wp2_with fail
  refine (signature_any _ _ X (HX.out.same HS0.out) HSz.out HL.out).mono ?_
  rintro e w1 ⟨bs, bm, vs, u, rfl, hsg, hown, hs1, hn1, _⟩
  have HAr := Lib.hid (sigL_ar X)
  obtain ⟨L, hLe⟩ : ∃ L, L = sigL X := ⟨_, rfl⟩
  rw [← hLe] at hsg hown HAr
  have HSg := Lib.hid hsg; have HOw := Lib.hid (SymRd.of_own hown)
  obtain ⟨ua, uc, rfl, _, _⟩ := own_shape hown
  have HS1 : Hid (Same w w1) := HS0.out.trans hs1 (fun _ h => h.elim)
  clear hsg hown hs1 hn1 hLe
  go_wp2_with fail
  refine (closed_any _ _ L HOw.out HAr.out _ t (HR.out.same_ HS1.out) HTl.out).mono ?_
  rintro e w2 ⟨rfl, hs2⟩
  have HS2 : Hid (Same w w2) := HS1.out.trans hs2 (fun _ h => h.elim)
  have HSg2 := Lib.hid (HSg.out.turned hs2 (fun _ _ h => h))
  clear hs2
  cases hcl : closedB L t with
  | false =>
    clear hcl
    go_wp2_with fail
    all_goals go_ret
    all_goals exact ⟨rfl, HS2.out⟩
  | true =>
    have HCl := Lib.hid (closed_laid hcl)
    have HCb := Lib.hid hcl
    clear hcl
    by_cases hlong : (t.length : Int) > 1000
    · go_wp2_with fail
      all_goals go_ret
      all_goals exact ⟨rfl, HS2.out⟩
    · clear HX HSz HL HOw HTl
      have ht1 : 0 < t.length := HCl.out.2.2.1
      go_upto_if 55 with fail
      go_cut [2] (fun s wx => ∃ k : Nat, s = .int .i64 k ∧ (k : Int) ≤ 9223372036854775807 ∧ wx = w2)
      case first =>
        by_cases hneg : ahead < 0
        · go_wp2_with fail
          go_meet
          exact ⟨(-(ahead + 1)).toNat, by rw [Int.toNat_of_nonneg (by omega)], by omega, rfl⟩
        · go_wp2_with fail
          go_meet
          exact ⟨ahead.toNat, by rw [Int.toNat_of_nonneg (by omega)], by omega, rfl⟩
      case rest =>
        obtain ⟨k, rfl, hk, rfl⟩ := hcut
        go_upto_region 10 with fail
        obtain ⟨n, hn, hn1, hn50⟩ : ∃ n : Nat, (k : Int) % 50 + 1 = n ∧ 1 ≤ n ∧ n ≤ 50 := ⟨((k : Int) % 50 + 1).toNat, by omega, by omega, by omega⟩
        rw [hn]
        obtain ⟨d, hd⟩ : ∃ d : Nat, d = if less then 1 else 0 := ⟨_, rfl⟩
        have HD := Lib.hid hd
        clear hn hd
        go_upto_if 66 with fail
        go_cut [14] (fun s wx => ∃ r : Nat, s = .int .i64 r ∧ r + d = n + t.length ∧ wx = wc)
        case first =>
          cases less with
          | false =>
            have hd : d = 0 := HD.out
            go_wp2_with fail
            go_meet
            exact ⟨n + t.length, rfl, by omega, rfl⟩
          | true =>
            have hd : d = 1 := HD.out
            go_wp2_with fail
            go_meet
            exact ⟨n + t.length - 1, by congr 1; omega, by omega, rfl⟩
        case rest =>
          obtain ⟨r, rfl, hr, rfl⟩ := hcut
          have hd1 : d ≤ 1 := by rw [HD.out]; split <;> omega
          have hr1 : (1 : Int) ≤ r := by omega
          have hr4 : (r : Int) ≤ 4000 := by omega
          go_wp2_with fail
          refine (hnew_ok r hr1 hr4 _).mono ?_
          rintro e w3 ⟨rfl, hh3, hs3⟩
          have HS3 : Hid (SH w w3 bs bm vs L wc.heap.size r (.slice none 0 0) []) := ⟨HS2.out.trans hs3 (fun _ h => h.elim), HSg2.out.turned hs3 (fun _ _ h => h), hh3, fun k hk => by
            rcases hk with rfl | hk
            · exact HS2.out.size
            · simp [Value.ownBlock] at hk⟩
          obtain ⟨b, hb⟩ : ∃ b, b = wc.heap.size := ⟨_, rfl⟩
          rw [← hb] at HS3 ⊢
          clear hh3 hs3 hb
          go_wp2_with fail
          go_loopw [17] (fun i wr => ∃ k : Nat, k ≤ n ∧ i = .int .i64 k ∧ Hid (∃ v N, SH w wr bs bm vs L b r v N ∧ N.map (·.1) = mkN k)) (fun i _ => n - (intOf i).toNat)
          case atStart => exact ⟨0, Nat.zero_le _, rfl, _, [], HS3.out, rfl⟩
          case round =>
            obtain ⟨k, hk, rfl, HV⟩ := hrel
            obtain ⟨v, N, hSH, hN⟩ := HV.out
            have HS4 := Lib.hid hSH
            have HN4 := Lib.hid hN
            have hNl : N.length = k := by have := congrArg List.length hN; simpa [mkN_len] using this
            have HNl := Lib.hid hNl
            clear hSH hN HV hNl
            by_cases hlt : k < n
            · have hlt2 : (k : Int) < n := by omega
              go_wp2_with fail
              refine (make_ok wr b r v N HS4.out.hp k (by omega) (.slice none 0 0) [] ⟨none, 0, rfl, fun h => by simp at h⟩ (by simp) (by simp) (by rw [HNl.out]; omega) hr4).mono ?_
              rintro e w4 ⟨v4, q4, rfl, hh4, ht4, hv4, _⟩
              have HS5 := Lib.hid (HS4.out.step hh4 ht4 hv4)
              have HN5 : Hid ((N ++ [((⟨(k : Int), [], 0, false, 0⟩ : Nd), Value.slice (some ⟨q4, 0, none⟩) ([] : List Int).length ([] : List Int).length)]).map (·.1) = mkN (k + 1)) := by
                unfold Hid; rw [List.map_append, HN4.out, mkN_succ]; rfl
              clear hh4 ht4 hv4
              go_wp2_with fail
              go_roundw
              case rel => exact ⟨k + 1, by omega, by go_num, _, _, HS5.out, HN5.out⟩
              case measure => simp [intOf]; omega
            · have hkk : k = n := by omega
              subst hkk
              rename World => w5
              go_wp2_with fail
              go_loopw [18, 19] (fun pv i wr => ∃ m : Nat, m ≤ t.length ∧ i = .int .i64 m ∧ Hid (PartsI w5 wr pv (t.take m))) (fun _ i _ => t.length - (intOf i).toNat)
              case atStart => exact ⟨0, Nat.zero_le _, rfl, Turned.refl _ _, World.ownsRow_nil _ _ _ _, fun j hj => by simp [Value.ownBlock] at hj⟩
              case round =>
                obtain ⟨m, hm, rfl, HP⟩ := hrel
                by_cases hlt2 : m < t.length
                · obtain ⟨A2, c2, ea, hA⟩ := HR.out.same_ (HS4.out.same.trans HP.out.same (fun _ h => h.elim))
                  injection ea with e1 _ e2
                  subst e1; subst e2
                  obtain ⟨bl, off, rfl, hc⟩ := hA (by omega)
                  have hx := hc m hlt2
                  have htk : t.take (m + 1) = t.take m ++ [t[m]] := List.take_succ_eq_append_getElem hlt2
                  obtain ⟨x, hxe⟩ : ∃ x, x = t[m] := ⟨_, rfl⟩
                  rw [← hxe] at hx htk
                  have HTk := Lib.hid htk
                  have HLm : Hid ((t.take m).length = m) := by simp [Hid]; omega
                  have hm0 : (0 : Int) ≤ m := by omega
                  have hm1 : (m : Int) < t.length := by omega
                  obtain ⟨pa, pc, rfl, _, _⟩ := own_shape HP.out.own
                  have HO : Hid (wr.ownsRow 0 78 2 (.slice pa m pc) m (pcells (t.take m))) := by have h1 := HP.out.own; rwa [HLm.out] at h1
                  have hml := HLm.out
                  rw [hml]
                  clear hc hA hxe htk hml
                  go_wp2_with (at_builtin; go_loud (refine wpList_append_src _ rfl _ _ 76 rfl 78 i0 _ 2 32 Try.underlying76 HI.out.1 HI.out.2.1 HI.out.2.2.1 HI.out.2.2.2 rfl (by omega) (.slice pa m pc) m (pcells (t.take m)) rfl (by exact World.ownsRow.alloc HO.out _) (some ⟨wr.heap.size, 0, none⟩) 1 1 [.int .i64 x, .slice none 0 0] rfl rfl (by exact src_new wr [.int .i64 x, .slice none 0 0] 78) (by intro u hu; simp at hu; rcases hu with rfl | rfl <;> rfl) (by unfold maxLen; omega) (by omega) ?_))
                  intro a6 c6 w6 ho6 hg6 hat6
                  have HPn : Hid (PartsI w5 w6 (.slice a6 (m + 1) c6) (t.take (m + 1))) := by
                    rw [HTk.out]
                    refine PartsI.next (w1 := wr.alloc (.cells #[.int .i64 x, .slice none 0 0] 78)) HP.out ((Turned.refl _ _).alloc _) (by rw [HLm.out]; exact ho6) (by rw [HLm.out]; exact hg6) (by rw [HLm.out, World.size_alloc]; exact hat6)
                  clear ho6 hg6 hat6 HO
                  go_wp2_with fail
                  go_roundw
                  case rel => exact ⟨m + 1, by omega, by go_num, HPn.out⟩
                  case measure => simp [intOf]; omega
                · have hmm : m = t.length := by omega
                  subst hmm
                  rw [List.take_length] at HP
                  rename World => w6
                  obtain ⟨pa, pc, rfl, _, _⟩ := own_shape HP.out.own
                  have HF6 : Hid (FullI w w6 bs bm vs L b r v N (.slice pa t.length pc) t w5.heap.size w6.heap.size) := by
                    refine ⟨HS4.out.later HP.out.same, fun k hk => .inl (HS4.out.hp.flt k hk), HP.out.at_ (fun k hk => hk), Nat.le_refl _⟩
                  go_upto_region 24 with fail
                  have hkr : (k : Int) ≤ r := by omega
                  clear HS2 HSg2 hr1 hlt hlt2 HP
                  go_wp2_with fail
                  have HBL : Hid (buildBad L (mkN k) r (rR t) 0 0 = (if (r : Int) - k < t.length then some (131, 0, 111) else none) ∧ buildP (mkN k) (rR t) 0 0 = t.map fun x => (x, (0 : Int))) := build0 HCl.out.1 (closed_syms HCb.out) HCl.out.2.2.2 hn1
                  refine (full_build HF6.out HAr.out (by rw [HN4.out]; exact ranked_mkN k) hr4 (by rw [HNl.out]; exact hkr) (mkN_args HN4.out) (by omega) 0 0).mono ?_
                  rintro e w7 (⟨c, i, y, ev, hb, rfl, ⟨q, rfl, hB, hq⟩, hF, hs7⟩ | ⟨v7, M7, a7, hb, ha, rfl, hF, hM, ht7⟩)
                  · have hE : (r : Int) - k < t.length ∧ c = 131 ∧ i = 0 ∧ y = 111 := by
                      rw [HN4.out, HBL.out.1] at hb
                      split at hb
                      · rename_i hlt7
                        injection hb with hb
                        injection hb with e1 e2
                        injection e2 with e2 e3
                        exact ⟨hlt7, e1.symm, e2.symm, e3.symm⟩
                      · cases hb
                    obtain ⟨hlt7, rfl, rfl, rfl⟩ := hE
                    have HB7 := Lib.hid hB; have HF7 := Lib.hid hF; have HQ7 := Lib.hid hq
                    have hle : less = true := by
                      cases less with
                      | false => have := HD.out; simp at this; omega
                      | true => rfl
                    subst hle
                    have HS7 := Lib.hid hs7
                    have hlt8 : (r : Int) - k < t.length := hlt7
                    clear hb hB hF hq hs7 hlt7
                    go_wp2_with fail
                    refine (fault_any w7 q 131 0 111 HB7.out).mono ?_
                    rintro e w8 ⟨rfl, ht8⟩
                    have HF8 : Hid (FullI w (w8.alloc (.cells #[.int .i64 131, .int .i64 0, .int .i64 111, .bool false, .int .i64 0, .int .i64 0] 80)) bs bm vs L b r v N (.slice pa t.length pc) t w5.heap.size w6.heap.size) := HF6.out.later ((HS7.out.trans ht8 (S := fun _ => False) (fun i hi => .inr (by rw [hi]; exact HQ7.out))).alloc _)
                    clear ht8
                    go_upto_region 26 with fail
                    have HB9 := Lib.hid (Blk.new w8 80 #[.int .i64 131, .int .i64 0, .int .i64 111, .bool false, .int .i64 0, .int .i64 0])
                    obtain ⟨N9, hN9⟩ : ∃ N9, N9 = N := ⟨_, rfl⟩
                    rw [← hN9] at HF8
                    have HF9 := HF8
                    have HN9 : Hid (N9.map (·.1) = mkN k ++ []) := by rw [hN9, List.append_nil]; exact HN4.out
                    have HRk9 : Hid (Ranked (mkN k ++ [])) := by rw [List.append_nil]; exact ranked_mkN k
                    have HA9 : Hid (∀ x ∈ N9, x.1.args.length ≤ 17592186044416) := by rw [hN9]; exact mkN_args HN4.out
                    have HNl9 : Hid (N9.length = k) := by rw [hN9]; exact HNl.out
                    have hn9 : (k : Int) ≤ r := hkr
                    have hn10 : (r : Int) - k < t.length := hlt8
                    clear hN9 HF8
                    obtain ⟨q9, hq9⟩ : ∃ q9, q9 = w8.heap.size := ⟨_, rfl⟩
                    rw [← hq9] at HB9 ⊢
                    clear hq9
                    obtain ⟨w9, hw9⟩ : ∃ w9, w9 = w8.alloc (.cells #[.int .i64 131, .int .i64 0, .int .i64 111, .bool false, .int .i64 0, .int .i64 0] 80) := ⟨_, rfl⟩
                    rw [← hw9] at HB9 HF9 ⊢
                    clear hw9
                    go_wp2_with fail
                    refine (full_build HF9.out HAr.out (by rw [HN9.out]; exact HRk9.out) hr4 (by rw [HNl9.out]; exact hn9) HA9.out (by omega) 1 ((k : Int) - 1)).mono ?_
                    have HB1 : Hid (buildBad L (N9.map (·.1)) r (rR t) 1 ((k : Int) - 1) = none ∧ buildP (N9.map (·.1)) (rR t) 1 ((k : Int) - 1) = [(-1, (k : Int) - 1)]) := by
                      rw [HN9.out]
                      refine build1' hn1 ?_
                      rw [← HN9.out, List.length_map, HNl9.out]; exact hn9
                    rintro e w10 (⟨c, i, y, ev, hb, _⟩ | ⟨v10, M10, a10, _, ha, rfl, hF, hM, ht10⟩)
                    · exact absurd (HB1.out.1.symm.trans hb) (by simp)
                    rw [HB1.out.2, lay1'] at ha hM
                    obtain rfl : a10 = (k : Int) - 1 := by simpa using ha.symm
                    obtain rfl : M10 = [] := by simpa using hM
                    rw [List.append_nil] at hF
                    have HF10 := Lib.hid hF
                    have HB10 : Hid (Blk w10 q9 80 #[.int .i64 131, .int .i64 0, .int .i64 111, .bool false, .int .i64 0, .int .i64 0]) := HB9.out.turned ht10 (fun hf => by
                      rcases hf with e | e
                      · exact Blk.ne_ HB9.out HF9.out.sh.hp.blk (by decide) e
                      · exact own_blk_ne HF9.out.sh.hp.own HB9.out (by decide) e)
                    clear ha hF hM ht10
                    go_wp2_with fail
                    refine (load_any w10 bs bm vs L HF10.out.sh.sig HAr.out b r v10 N9 HF10.out.sh.hp hr4 _ t (HF10.out.load HR.out) (by omega) (by rw [HNl9.out]; exact hn9)).mono ?_
                    have HL1 : Hid (loadBad L r N9.length t = some (131, 111)) := load1' HCb.out (by rw [HNl9.out]; exact hn10)
                    rintro e w11 (⟨c, y, ev, he, rfl, ⟨q11, rfl, hB11, hq11⟩, hs11⟩ | ⟨v11, M11, a11, he, _⟩)
                    rotate_left
                    · exact absurd (HL1.out.symm.trans he) (by simp)
                    obtain ⟨rfl, rfl⟩ : c = 131 ∧ y = 111 := by
                      have h1 := he.symm.trans HL1.out
                      injection h1 with h1
                      injection h1 with e1 e2
                      exact ⟨e1, e2⟩
                    have HB11 := Lib.hid hB11; have HQ11 := Lib.hid hq11; have HS11 := Lib.hid hs11
                    clear he hB11 hq11 hs11
                    go_wp2_with fail
                    refine (fault_any w11 q11 131 0 111 HB11.out).mono ?_
                    rintro e w12 ⟨rfl, ht12⟩
                    have hs12 : Same w10 w12 := HS11.out.trans ht12 (S := fun _ => False) (fun i hi => .inr (by rw [hi]; exact HQ11.out))
                    have hs13 : Same w10 ((w12.alloc (.cells #[.int .i64 131, .int .i64 0, .int .i64 111, .bool false, .int .i64 0, .int .i64 0] 80)).alloc (.cells #[.int .i64 131, .int .i64 0, .int .i64 111, .bool false, .int .i64 0, .int .i64 0] 80)) := (hs12.alloc _).alloc _
                    have HF13 := Lib.hid (HF10.out.later hs13)
                    obtain ⟨x0, x1, x2, x3, x4, x5⟩ := (HB10.out.turned hs13 (fun h => h)).six
                    obtain ⟨y0, y1, y2, y3, y4, y5⟩ := ((Blk.new w12 80 #[.int .i64 131, .int .i64 0, .int .i64 111, .bool false, .int .i64 0, .int .i64 0]).alloc (.cells #[.int .i64 131, .int .i64 0, .int .i64 111, .bool false, .int .i64 0, .int .i64 0] 80)).six
                    have z := Blk.new (w12.alloc (.cells #[.int .i64 131, .int .i64 0, .int .i64 111, .bool false, .int .i64 0, .int .i64 0] 80)) 80 #[.int .i64 131, .int .i64 0, .int .i64 111, .bool false, .int .i64 0, .int .i64 0]
                    rw [World.size_alloc] at z
                    obtain ⟨z0, z1, z2, z3, z4, z5⟩ := z.six
                    clear z hs12 hs13 ht12
                    go_upto_region 30 with fail
                    obtain ⟨w13, hw13⟩ : ∃ w13, w13 = ((w12.alloc (.cells #[.int .i64 131, .int .i64 0, .int .i64 111, .bool false, .int .i64 0, .int .i64 0] 80)).alloc (.cells #[.int .i64 131, .int .i64 0, .int .i64 111, .bool false, .int .i64 0, .int .i64 0] 80)) := ⟨_, rfl⟩
                    rw [← hw13] at HF13 x0 x1 x2 x3 x4 x5 y0 y1 y2 y3 y4 y5 z0 z1 z2 z3 z4 z5 ⊢
                    clear hw13
                    have HU : Hid (Calls Try.prog 14 #[.pointer (some ⟨b, 0, none⟩)] w13 fun e w' => e = .returned (.int .i64 (k : Nat)) ∧ w13 = w') := by
                      have h1 := used_any w13 b r v10 N9 HF13.out.sh.hp
                      rwa [HNl9.out] at h1
                    go_wp2_with (first | (go_at_call 14; refine HU.out.mono ?_; rintro e w' ⟨rfl, rfl⟩))
                    all_goals go_ret
                    all_goals exact ⟨rfl, HF13.out.sh.same⟩
                  · have hE : ¬ ((r : Int) - k < t.length) := by
                      rw [HN4.out, HBL.out.1] at hb
                      split at hb
                      · cases hb
                      · assumption
                    have HF7 := Lib.hid hF
                    have hle : less = false := by
                      cases less with
                      | false => rfl
                      | true => have := HD.out; simp at this; omega
                    subst hle
                    have hd0 : d = 0 := HD.out
                    have hM7 : M7.length = t.length := by
                      have h1 := congrArg List.length hM
                      rw [List.length_map, layF_syms, HN4.out, HBL.out.2, syms_all HCl.out.1] at h1
                      exact h1
                    have hRk : Ranked (mkN k ++ M7.map (·.1)) := by
                      rw [hM, HN4.out, HBL.out.2, HNl.out]
                      have h1 := ranked_lay L (ranked_mkN k) (t.map fun n => (n, (0 : Int))) (by
                        intro x hx hn
                        obtain ⟨n, hn2, rfl⟩ := List.mem_map.1 hx
                        have := HCl.out.1 n hn2
                        simp at hn
                        omega)
                      rwa [mkN_len] at h1
                    have hMa : ∀ x ∈ M7, x.1.args.length ≤ 17592186044416 := by
                      intro x hx
                      have h1 : x.1 ∈ (layF L N.length (buildP (N.map (·.1)) (rR t) 0 0)).2 := by rw [← hM]; exact List.mem_map_of_mem hx
                      have := nds_args HAr.out _ _ _ h1
                      omega
                    have HM7 : Hid (M7.length = t.length ∧ Ranked (mkN k ++ M7.map (·.1)) ∧ ∀ x ∈ M7, x.1.args.length ≤ 17592186044416) := ⟨hM7, hRk, hMa⟩
                    clear hb ha hF hM ht7 hM7 hRk hMa
                    go_wp2_with fail
                    refine (fault_nil w7).mono ?_
                    rintro e w8 ⟨rfl, hs8⟩
                    have HF8 : Hid (FullI w (w8.alloc (.cells #[.int .i64 0, .int .i64 0, .int .i64 0, .bool false, .int .i64 0, .int .i64 0] 80)) bs bm vs L b r v7 (N ++ M7) (.slice pa t.length pc) t w5.heap.size w6.heap.size) := HF7.out.later (hs8.alloc _)
                    clear hs8
                    go_upto_region 26 with fail
                    have HB9 := Lib.hid (Blk.new w8 80 #[.int .i64 0, .int .i64 0, .int .i64 0, .bool false, .int .i64 0, .int .i64 0])
                    obtain ⟨N9, hN9⟩ : ∃ N9, N9 = N ++ M7 := ⟨_, rfl⟩
                    rw [← hN9] at HF8
                    have HF9 := HF8
                    have HN9 : Hid (N9.map (·.1) = mkN k ++ M7.map (·.1)) := by rw [hN9, List.map_append, HN4.out]; rfl
                    have HRk9 : Hid (Ranked (mkN k ++ M7.map (·.1))) := HM7.out.2.1
                    have HA9 : Hid (∀ x ∈ N9, x.1.args.length ≤ 17592186044416) := by
                      rw [hN9]
                      intro x hx
                      rcases List.mem_append.1 hx with h1 | h1
                      · exact mkN_args HN4.out x h1
                      · exact HM7.out.2.2 x h1
                    have HNl9 : Hid (N9.length = r) := by rw [hN9, List.length_append, HNl.out, HM7.out.1]; unfold Hid; omega
                    have hn9 : (r : Int) ≤ r := Int.le_refl _
                    have hn10 : (r : Int) - r < t.length := by omega
                    clear hN9 HF8 hE
                    obtain ⟨q9, hq9⟩ : ∃ q9, q9 = w8.heap.size := ⟨_, rfl⟩
                    rw [← hq9] at HB9 ⊢
                    clear hq9
                    obtain ⟨w9, hw9⟩ : ∃ w9, w9 = w8.alloc (.cells #[.int .i64 0, .int .i64 0, .int .i64 0, .bool false, .int .i64 0, .int .i64 0] 80) := ⟨_, rfl⟩
                    rw [← hw9] at HB9 HF9 ⊢
                    clear hw9
                    go_wp2_with fail
                    refine (full_build HF9.out HAr.out (by rw [HN9.out]; exact HRk9.out) hr4 (by rw [HNl9.out]; exact hn9) HA9.out (by omega) 1 ((k : Int) - 1)).mono ?_
                    have HB1 : Hid (buildBad L (N9.map (·.1)) r (rR t) 1 ((k : Int) - 1) = none ∧ buildP (N9.map (·.1)) (rR t) 1 ((k : Int) - 1) = [(-1, (k : Int) - 1)]) := by
                      rw [HN9.out]
                      refine build1' hn1 ?_
                      rw [← HN9.out, List.length_map, HNl9.out]; exact hn9
                    rintro e w10 (⟨c, i, y, ev, hb, _⟩ | ⟨v10, M10, a10, _, ha, rfl, hF, hM, ht10⟩)
                    · exact absurd (HB1.out.1.symm.trans hb) (by simp)
                    rw [HB1.out.2, lay1'] at ha hM
                    obtain rfl : a10 = (k : Int) - 1 := by simpa using ha.symm
                    obtain rfl : M10 = [] := by simpa using hM
                    rw [List.append_nil] at hF
                    have HF10 := Lib.hid hF
                    have HB10 : Hid (Blk w10 q9 80 #[.int .i64 0, .int .i64 0, .int .i64 0, .bool false, .int .i64 0, .int .i64 0]) := HB9.out.turned ht10 (fun hf => by
                      rcases hf with e | e
                      · exact Blk.ne_ HB9.out HF9.out.sh.hp.blk (by decide) e
                      · exact own_blk_ne HF9.out.sh.hp.own HB9.out (by decide) e)
                    clear ha hF hM ht10
                    go_wp2_with fail
                    refine (load_any w10 bs bm vs L HF10.out.sh.sig HAr.out b r v10 N9 HF10.out.sh.hp hr4 _ t (HF10.out.load HR.out) (by omega) (by rw [HNl9.out]; exact hn9)).mono ?_
                    have HL1 : Hid (loadBad L r N9.length t = some (131, 111)) := load1' HCb.out (by rw [HNl9.out]; exact hn10)
                    rintro e w11 (⟨c, y, ev, he, rfl, ⟨q11, rfl, hB11, hq11⟩, hs11⟩ | ⟨v11, M11, a11, he, _⟩)
                    rotate_left
                    · exact absurd (HL1.out.symm.trans he) (by simp)
                    obtain ⟨rfl, rfl⟩ : c = 131 ∧ y = 111 := by
                      have h1 := he.symm.trans HL1.out
                      injection h1 with h1
                      injection h1 with e1 e2
                      exact ⟨e1, e2⟩
                    have HB11 := Lib.hid hB11; have HQ11 := Lib.hid hq11; have HS11 := Lib.hid hs11
                    clear he hB11 hq11 hs11
                    go_wp2_with fail
                    refine (fault_any w11 q11 131 0 111 HB11.out).mono ?_
                    rintro e w12 ⟨rfl, ht12⟩
                    have hs12 : Same w10 w12 := HS11.out.trans ht12 (S := fun _ => False) (fun i hi => .inr (by rw [hi]; exact HQ11.out))
                    have hs13 : Same w10 ((w12.alloc (.cells #[.int .i64 131, .int .i64 0, .int .i64 111, .bool false, .int .i64 0, .int .i64 0] 80)).alloc (.cells #[.int .i64 131, .int .i64 0, .int .i64 111, .bool false, .int .i64 0, .int .i64 0] 80)) := (hs12.alloc _).alloc _
                    have HF13 := Lib.hid (HF10.out.later hs13)
                    obtain ⟨x0, x1, x2, x3, x4, x5⟩ := (HB10.out.turned hs13 (fun h => h)).six
                    obtain ⟨y0, y1, y2, y3, y4, y5⟩ := ((Blk.new w12 80 #[.int .i64 131, .int .i64 0, .int .i64 111, .bool false, .int .i64 0, .int .i64 0]).alloc (.cells #[.int .i64 131, .int .i64 0, .int .i64 111, .bool false, .int .i64 0, .int .i64 0] 80)).six
                    have z := Blk.new (w12.alloc (.cells #[.int .i64 131, .int .i64 0, .int .i64 111, .bool false, .int .i64 0, .int .i64 0] 80)) 80 #[.int .i64 131, .int .i64 0, .int .i64 111, .bool false, .int .i64 0, .int .i64 0]
                    rw [World.size_alloc] at z
                    obtain ⟨z0, z1, z2, z3, z4, z5⟩ := z.six
                    clear z hs12 hs13 ht12
                    go_upto_region 30 with fail
                    obtain ⟨w13, hw13⟩ : ∃ w13, w13 = ((w12.alloc (.cells #[.int .i64 131, .int .i64 0, .int .i64 111, .bool false, .int .i64 0, .int .i64 0] 80)).alloc (.cells #[.int .i64 131, .int .i64 0, .int .i64 111, .bool false, .int .i64 0, .int .i64 0] 80)) := ⟨_, rfl⟩
                    rw [← hw13] at HF13 x0 x1 x2 x3 x4 x5 y0 y1 y2 y3 y4 y5 z0 z1 z2 z3 z4 z5 ⊢
                    clear hw13
                    have HU : Hid (Calls Try.prog 14 #[.pointer (some ⟨b, 0, none⟩)] w13 fun e w' => e = .returned (.int .i64 (r : Nat)) ∧ w13 = w') := by
                      have h1 := used_any w13 b r v10 N9 HF13.out.sh.hp
                      rwa [HNl9.out] at h1
                    go_wp2_with (first | (go_at_call 14; refine HU.out.mono ?_; rintro e w' ⟨rfl, rfl⟩))
                    all_goals go_ret
                    all_goals exact ⟨rfl, HF13.out.sh.same⟩
end Go.Proofs.Yteohhiefchoamaa
