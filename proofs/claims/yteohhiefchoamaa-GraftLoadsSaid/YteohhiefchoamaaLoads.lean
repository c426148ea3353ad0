/-
  The walk of GraftLoads.
-/
import Derived.Test.YteohhiefchoamaaLdCalls
import Derived.Laws.StructEq
namespace Go.Proofs.Yteohhiefchoamaa
open Go.RowKit

/-- A slice of terms, as a call reads it. -/
def TermsRd (w : World) (v : Value) (T : List (List Int)) : Prop :=
  ∃ A c, v = .slice A T.length c ∧ (0 < T.length → ∃ bl off, A = some ⟨bl, off, none⟩ ∧ ∀ k (h : k < T.length), ∃ pv, w.cell? ⟨bl, off + k, none⟩ = some pv ∧ Rd w pv T[k])
/-- A list of the caller's, behind what was made since. -/
theorem Rd.far {w wr : World} {S : Nat → Prop} {pv : Value} {p : List Int} (h : Rd w pv p) (hs : Same w wr) (hS : ∀ k, S k → w.heap.size ≤ k) : RdS wr S pv p := by
  obtain ⟨A, c, rfl, h1⟩ := h
  refine ⟨A, c, rfl, fun h0 => ?_⟩
  obtain ⟨bl, off, rfl, hc⟩ := h1 h0
  have hb := World.block_lt_of_cell? _ _ (hc 0 h0)
  simp only at hb
  exact ⟨bl, off, rfl, fun hf => by have := hS bl hf; omega, fun k hk => (hs.cell (p := ⟨bl, off + k, none⟩) hb (fun h => h)).trans (hc k hk)⟩
/-- Between two rounds. -/
def LsP (w wr : World) (bs bm : Nat) (vs : Value) (L : List Sym) (lu : Value) (b r : Nat) (room : Int) : Prop :=
  ∃ v u N M, LdI w wr bs bm vs L lu b r room v u N M ∧ M.map (·.1) = N.map (·.1) ∧ Sound (N.map (·.1)) room ∧ ∀ x ∈ N.map (·.1), x.points = true → x.args = []
theorem sound_pos {N : List NV} {room : Int} (h : Sound (N.map (·.1)) room) (hp : ∀ x ∈ N.map (·.1), x.points = true → x.args = []) : ∀ x ∈ N, ∀ d ∈ x.1.args, 0 ≤ d := by
  intro x hx d hd
  have hm : x.1 ∈ N.map (·.1) := List.mem_map_of_mem hx
  cases hpo : x.1.points with
  | true => rw [hp x.1 hm hpo] at hd; simp at hd
  | false =>
    obtain ⟨j, e, _⟩ := h.rk.inK x.1 hm d (by unfold down; rw [hpo]; exact hd)
    omega

theorem LentAt.rds {w : World} {S : Nat → Prop} {v : Value} {p : List Int} {g : Nat} (h : LentAt w v p g) (hS : ¬ S g) : RdS w S v p := by
  obtain ⟨A, c, e, h1⟩ := h.rd
  obtain ⟨c', e', _, _⟩ := h
  refine ⟨A, c, e, fun h0 => ?_⟩
  obtain ⟨bl, off, e2, hc⟩ := h1 h0
  refine ⟨bl, off, e2, ?_, hc⟩
  rw [e] at e'
  injection e' with e3
  rw [e2] at e3
  injection e3 with e3
  injection e3 with e3
  rw [e3]; exact hS
theorem ldN_pts {L : List Sym} {K : List Nd} {room : Int} {n : Nat} {t : List Int} (hp : ∀ x ∈ K, x.points = true → x.args = []) : ∀ x ∈ K ++ ldN L room n t, x.points = true → x.args = [] := by
  intro x hx hpo
  rcases List.mem_append.1 hx with h1 | h1
  · exact hp x h1 hpo
  · unfold ldN at h1
    cases hb : loadBad L room n t with
    | some _ => rw [hb] at h1; simp at h1
    | none =>
      rw [hb] at h1
      have := (layF_new L n _ x h1).1
      rw [this] at hpo; cases hpo

set_option maxRecDepth 100000 in
set_option maxHeartbeats 8000000 in
theorem loads_law (w : World) (vX lv tv : Value) (X : List Sym) (room : Int) (K : List Nd) (T : List (List Int))
    (hX : SymRd w vX X) (hs : ∀ x ∈ X, x.name.size ≤ maxLen) (hl : X.length ≤ 17592186044416) (hK : NdRd w lv K) (hKa : ∀ x ∈ K, x.args.length ≤ 17592186044416) (hT : TermsRd w tv T) (hTl : T.length ≤ 17592186044416) (hTt : ∀ t ∈ T, t.length ≤ 17592186044000) :
    Calls Try.prog 8 #[vX, .int .i64 room, lv, tv] w fun e w' => e = .returned (.bool true) ∧ Same w w' := by
  have HX := Lib.hid hX; have HSz := Lib.hid hs; have HL := Lib.hid hl; have HK := Lib.hid hK; have HKa := Lib.hid hKa; have HT := Lib.hid hT; have HTt := Lib.hid hTt
  obtain ⟨XA, xc, rfl, _⟩ := hX
  obtain ⟨KA, kc, rfl, _⟩ := hK
  obtain ⟨TA, tc, rfl, _⟩ := hT
  clear hs hKa hTt
  go_enter Try.func8, Try.ntmps8
  go_wp2_with fail
  refine (awake_any _).mono ?_
  rintro e w0 ⟨rfl, hs0⟩
  have HS0 := Lib.hid hs0
  clear hs0
  go_wp2_with fail
  refine (signature_any _ _ X (HX.out.same HS0.out) HSz.out HL.out).mono ?_
  rintro e w1 ⟨bs, bm, vs, lu, rfl, hsg, hlu, hs1, hn1, _⟩
  have HAr := Lib.hid (sigL_ar X)
  obtain ⟨L, hLe⟩ : ∃ L, L = sigL X := ⟨_, rfl⟩
  rw [← hLe] at hsg hlu HAr
  have HSg := Lib.hid hsg; have HLu := Lib.hid hlu
  have HS1 : Hid (Same w w1) := HS0.out.trans hs1 (fun _ h => h.elim)
  clear hsg hlu hs1 hn1 hLe
  go_wp2_with fail
  refine (made_any w1 room _ K (HK.out.same HS1.out) HKa.out).mono ?_
  rintro e w2 (⟨rfl, hs2⟩ | ⟨b, r, v, u, N, M, rfl, hTw, hN, hM, hmp, hrk, _, hr4, hKl⟩)
  · have HS2 : Hid (Same w w2) := HS1.out.trans hs2 (fun _ h => h.elim)
    clear hs2
    go_wp2_with fail
    all_goals go_ret
    all_goals exact ⟨rfl, HS2.out⟩
  · have HI2 : Hid (LsP w w2 bs bm vs L lu b r room) := by
      refine ⟨v, u, N, M, ⟨⟨HS1.out.trans hTw.same (fun _ h => h.elim), hTw.hp, hTw.rp, fun k hk => Nat.le_trans HS1.out.size (hTw.newh k hk), fun k hk => Nat.le_trans HS1.out.size (hTw.newr k hk), hTw.apart⟩, HSg.out.turned hTw.same (fun _ _ h => h), World.ownsRow.same_ HLu.out hTw.same⟩, by rw [hM, hN], ?_, ?_⟩
      · rw [hN]; exact ⟨hrk, fun x hx => (hmp x hx).len, hKl⟩
      · rw [hN]; exact fun x hx hp => ((hmp x hx).pts hp).2
    clear hTw hN hM hmp hrk hKl
    go_wp2_with fail
    go_loopw [14] (fun i wr => ∃ k : Nat, k ≤ T.length ∧ i = .int .i64 k ∧ Hid (LsP w wr bs bm vs L lu b r room)) (fun i _ => T.length - (intOf i).toNat)
    case atStart => exact ⟨0, Nat.zero_le _, rfl, HI2.out⟩
    case round =>
      obtain ⟨k, hk, rfl, HV⟩ := hrel
      obtain ⟨v5, u5, N5, M5, hI5, hE5, hS5, hP5⟩ := HV.out
      have HI5 := Lib.hid hI5; have HE5 := Lib.hid hE5; have HS5 := Lib.hid hS5; have HP5 := Lib.hid hP5
      clear hI5 hE5 hS5 hP5 HV
      rename World => w5
      by_cases hlt : k < T.length
      · obtain ⟨A', c', e, hA⟩ := HT.out
        injection e with e1 e3 e2
        clear e3
        subst e1; subst e2
        obtain ⟨bl, off, rfl, hc⟩ := hA (by omega)
        obtain ⟨pv, hd, hRp⟩ := hc k hlt
        have hbl := World.block_lt_of_cell? _ _ hd
        have htl := HTt.out T[k] (List.getElem_mem _)
        obtain ⟨t, ht⟩ : ∃ t, t = T[k] := ⟨_, rfl⟩
        rw [← ht] at hRp htl
        have HTc : Hid (∀ W, Same w W → W.cell? ⟨bl, off + k, none⟩ = some pv) := fun W hW => (hW.cell (p := ⟨bl, off + k, none⟩) hbl (fun h => h)).trans hd
        have HRp := Lib.hid hRp
        obtain ⟨pA, pc, rfl, _⟩ := hRp
        have hk0 : (0 : Int) ≤ k := by omega
        have hk1 : (k : Int) < T.length := by omega
        have hML : M5.length = N5.length := by have h1 := congrArg List.length HE5.out; simpa using h1
        have HML := Lib.hid hML
        have hc5 := HTc.out w5 HI5.out.tw.same
        clear hc hA hbl hd ht hML
        go_wp2_with fail
        refine (lent_any w5 _ t (HRp.out.same_ HI5.out.tw.same) htl).mono ?_
        rintro e w6 ⟨lv6, g, rfl, hL6, hs6, hg6⟩
        have HL6 := Lib.hid hL6; have HG6 := Lib.hid hg6; have HS6 := Lib.hid hs6
        have HI6 := Lib.hid (HI5.out.later hs6)
        have HGh : Hid (¬ hfoot b v5 g) := fun hf => by have := HI5.out.tw.hp.flt g hf; have := HG6.out; omega
        have HGr : Hid (¬ hfoot r u5 g) := fun hf => by have := HI5.out.tw.rp.flt g hf; have := HG6.out; omega
        clear hL6 hs6 hg6 hc5
        go_wp2_with fail
        refine (HI6.out.load HAr.out HS5.out hr4 _ t (HL6.out.rds HGh.out) (by omega)).mono ?_
        rintro e w7 ⟨ev7, rfl, v7, X7, hI7, hX7, hE7, ht7⟩
        have HI7 := Lib.hid hI7; have HX7 := Lib.hid hX7; have HE7 := Lib.hid hE7
        have HL7 := Lib.hid (HL6.out.turned ht7 HGh.out)
        have HZ7 := Lib.hid ht7.size
        obtain ⟨la, hla⟩ : ∃ la, la = ldA L room N5.length t := ⟨_, rfl⟩
        have HLa := Lib.hid hla
        rw [← hla]
        clear hI7 hX7 hE7 ht7 hla
        have hc7 := HTc.out w7 HI7.out.tw.same
        go_wp2_with fail
        refine (HI7.out.rload HAr.out (by rw [HML.out]; have := HS5.out.len; rwa [List.length_map] at this) hr4 _ t (HRp.out.far HI7.out.tw.same (fun k hk => HI7.out.tw.newr k hk)) (by omega)).mono ?_
        rintro e w8 ⟨rfl, u8, Y8, hI8, hY8, ht8, hn8⟩
        rw [HML.out] at hY8 ⊢
        rw [← HLa.out]
        obtain ⟨fc, hfc⟩ : ∃ fc, fc = (ldC L room N5.length t).1 := ⟨_, rfl⟩
        obtain ⟨fy, hfy⟩ : ∃ fy, fy = (ldC L room N5.length t).2 := ⟨_, rfl⟩
        rw [← hfc, ← hfy]
        rw [← hfc, ← hfy] at HE7
        clear hfc hfy
        go_upto_region 12 with fail
        have HI8 : Hid (LdI w (w8.alloc (.cells #[.int .i64 fc, .int .i64 0, .int .i64 fy, .bool false, .int .i64 0, .int .i64 0] 80)) bs bm vs L lu b r room v7 u8 (N5 ++ X7) (M5 ++ Y8)) := hI8.later ((Turned.refl _ _).alloc _)
        have HY8 := Lib.hid hY8; have HN8 := Lib.hid hn8
        have HE8 : Hid (EvIs (w8.alloc (.cells #[.int .i64 fc, .int .i64 0, .int .i64 fy, .bool false, .int .i64 0, .int .i64 0] 80)) ev7 fc 0 fy w6.heap.size) := (HE7.out.turned ht8 (fun q cs hB hf => by
          rcases hf with e | e
          · exact Blk.ne_ hB HI7.out.tw.rp.blk (by decide) e
          · exact own_blk_ne HI7.out.tw.rp.own hB (by decide) e)).turned (S := fun _ => False) ((Turned.refl _ _).alloc _) (fun _ _ _ h => h)
        have HL8 : Hid (LentAt (w8.alloc (.cells #[.int .i64 fc, .int .i64 0, .int .i64 fy, .bool false, .int .i64 0, .int .i64 0] 80)) lv6 t g) := (HL7.out.turned ht8 HGr.out).turned (S := fun _ => False) ((Turned.refl _ _).alloc _) (fun h => h)
        have HB8 := Lib.hid (Blk.new w8 80 #[.int .i64 fc, .int .i64 0, .int .i64 fy, .bool false, .int .i64 0, .int .i64 0])
        obtain ⟨q19, hq19⟩ : ∃ q19, q19 = w8.heap.size := ⟨_, rfl⟩
        obtain ⟨w8a, hw8a⟩ : ∃ w8a, w8a = w8.alloc (.cells #[.int .i64 fc, .int .i64 0, .int .i64 fy, .bool false, .int .i64 0, .int .i64 0] 80) := ⟨_, rfl⟩
        rw [← hw8a] at HI8 HE8 HL8 HB8 ⊢
        rw [← hq19] at HB8 ⊢
        clear hI8 hY8 ht8 hn8 hq19 hw8a hc7
        go_wp2_with fail
        refine (fault_ev w8a ev7 fc 0 fy _ HE8.out).mono ?_
        rintro e w9 ⟨rfl, hf9⟩
        have HI9 : Hid (LdI w (w9.alloc (.cells #[.int .i64 fc, .int .i64 0, .int .i64 fy, .bool false, .int .i64 0, .int .i64 0] 80)) bs bm vs L lu b r room v7 u8 (N5 ++ X7) (M5 ++ Y8)) := (HI8.out.far hf9 HI6.out.tw.same.size).later ((Turned.refl _ _).alloc _)
        have HL9 : Hid (LentAt (w9.alloc (.cells #[.int .i64 fc, .int .i64 0, .int .i64 fy, .bool false, .int .i64 0, .int .i64 0] 80)) lv6 t g) := (HL8.out.farT hf9).turned (S := fun _ => False) ((Turned.refl _ _).alloc _) (fun h => h)
        have HB9 : Hid (Blk (w9.alloc (.cells #[.int .i64 fc, .int .i64 0, .int .i64 fy, .bool false, .int .i64 0, .int .i64 0] 80)) q19 80 #[.int .i64 fc, .int .i64 0, .int .i64 fy, .bool false, .int .i64 0, .int .i64 0] ∧ Blk (w9.alloc (.cells #[.int .i64 fc, .int .i64 0, .int .i64 fy, .bool false, .int .i64 0, .int .i64 0] 80)) w9.heap.size 80 #[.int .i64 fc, .int .i64 0, .int .i64 fy, .bool false, .int .i64 0, .int .i64 0]) := ⟨(HB8.out.farT hf9 (by decide)).alloc _, Blk.new w9 80 _⟩
        clear hf9
        go_upto_region 13 with fail
        obtain ⟨q20, hq20⟩ : ∃ q20, q20 = w9.heap.size := ⟨_, rfl⟩
        obtain ⟨w9a, hw9a⟩ : ∃ w9a, w9a = w9.alloc (.cells #[.int .i64 fc, .int .i64 0, .int .i64 fy, .bool false, .int .i64 0, .int .i64 0] 80) := ⟨_, rfl⟩
        rw [← hw9a] at HI9 HL9 HB9 ⊢
        rw [← hq20] at HB9 ⊢
        clear hq20 hw9a
        have HI9b : Hid (LdI w (w9a.alloc (.cells #[.int .i64 (-1)] 3)) bs bm vs L lu b r room v7 u8 (N5 ++ X7) (M5 ++ Y8)) := HI9.out.later ((Turned.refl _ _).alloc _)
        have HL9b : Hid (LentAt (w9a.alloc (.cells #[.int .i64 (-1)] 3)) lv6 t g) := HL9.out.turned (S := fun _ => False) ((Turned.refl _ _).alloc _) (fun h => h)
        have HB9b : Hid (Blk (w9a.alloc (.cells #[.int .i64 (-1)] 3)) q19 80 #[.int .i64 fc, .int .i64 0, .int .i64 fy, .bool false, .int .i64 0, .int .i64 0] ∧ Blk (w9a.alloc (.cells #[.int .i64 (-1)] 3)) q20 80 #[.int .i64 fc, .int .i64 0, .int .i64 fy, .bool false, .int .i64 0, .int .i64 0]) := ⟨HB9.out.1.alloc _, HB9.out.2.alloc _⟩
        have HSn : Hid (Sound ((N5 ++ X7).map (·.1)) room) := by
          rw [List.map_append, HX7.out]
          have h1 := ldN_sound (t := t) HS5.out HAr.out
          rwa [List.length_map] at h1
        have HR9 : Hid (RdS (w9a.alloc (.cells #[.int .i64 (-1)] 3)) (hfoot b v7) (.slice (some ⟨w9a.heap.size, 0, none⟩) 1 1) [-1]) := rds_lit (P := [-1]) (Blk.new w9a 3 _) (fun hf => by have := HI9.out.tw.hp.flt _ hf; omega)
        go_wp2_with fail
        refine (HI9b.out.load HAr.out HSn.out hr4 _ [-1] HR9.out (by simp)).mono ?_
        rintro e w10 ⟨ev10, rfl, v10, X10, hI10, hX10, hE10, ht10⟩
        have hz : ldN L room (N5 ++ X7).length [-1] = [] := by unfold ldN; rw [load_neg]
        have hz2 : ldC L room (N5 ++ X7).length [-1] = (130, 0) := by unfold ldC; rw [load_neg]; rfl
        have hz3 : ldA L room (N5 ++ X7).length [-1] = 0 := by unfold ldA; rw [load_neg]
        rw [hz] at hX10
        rw [hz2] at hE10
        rw [hz3]
        obtain rfl : X10 = [] := by simpa using hX10
        rw [List.append_nil] at hI10
        have hne10 : ∀ q, Blk (w9a.alloc (.cells #[.int .i64 (-1)] 3)) q 80 #[.int .i64 fc, .int .i64 0, .int .i64 fy, .bool false, .int .i64 0, .int .i64 0] → ¬ hfoot b v7 q := fun q hB hf => by
          rcases hf with e | e
          · exact Blk.ne_ hB HI9b.out.tw.hp.blk (by decide) e
          · exact own_blk_ne HI9b.out.tw.hp.own hB (by decide) e
        have HI10 := Lib.hid hI10; have HE10 : Hid (EvIs w10 ev10 130 0 0 _) := hE10
        have HB10 : Hid (Blk w10 q19 80 #[.int .i64 fc, .int .i64 0, .int .i64 fy, .bool false, .int .i64 0, .int .i64 0] ∧ Blk w10 q20 80 #[.int .i64 fc, .int .i64 0, .int .i64 fy, .bool false, .int .i64 0, .int .i64 0]) := ⟨HB9b.out.1.turned ht10 (hne10 _ HB9b.out.1), HB9b.out.2.turned ht10 (hne10 _ HB9b.out.2)⟩
        have HGn : Hid (∀ x ∈ M5 ++ Y8, x.2.ownBlock ≠ some g) := by
          intro x hx hk
          rcases List.mem_append.1 hx with h1 | h1
          · have h2 := own_lt (HI5.out.tw.rp.args x h1) hk
            have := HG6.out
            omega
          · have h2 := HN8.out x h1 g hk
            have h3 := HL6.out.lt
            have h4 := HZ7.out
            omega
        have HL10 : Hid (LentAt w10 lv6 t g) := HL9b.out.turned ht10 (fun hf => by
          rcases hf with e | e
          · obtain ⟨c, _, _, ho⟩ := HL9b.out
            exact own_blk_ne ho HI9b.out.tw.hp.blk (by decide) (by rw [← e]; rfl)
          · obtain ⟨c, _, _, ho⟩ := HL9b.out
            exact own_own_ne ho HI9b.out.tw.hp.own (by decide) g rfl e)
        clear hz hz2 hz3 hX10 hI10 hE10 ht10 hne10
        go_wp2_with fail
        refine (fault_ev w10 ev10 130 0 0 _ HE10.out).mono ?_
        rintro e w11 ⟨rfl, hf11⟩
        have HI11 : Hid (LdI w (w11.alloc (.cells #[.int .i64 130, .int .i64 0, .int .i64 0, .bool false, .int .i64 0, .int .i64 0] 80)) bs bm vs L lu b r room v10 u8 (N5 ++ X7) (M5 ++ Y8)) := (HI10.out.far hf11 HI9b.out.tw.same.size).later ((Turned.refl _ _).alloc _)
        have HL11 : Hid (LentAt (w11.alloc (.cells #[.int .i64 130, .int .i64 0, .int .i64 0, .bool false, .int .i64 0, .int .i64 0] 80)) lv6 t g) := (HL10.out.farT hf11).turned (S := fun _ => False) ((Turned.refl _ _).alloc _) (fun h => h)
        have HB11 : Hid (Blk (w11.alloc (.cells #[.int .i64 130, .int .i64 0, .int .i64 0, .bool false, .int .i64 0, .int .i64 0] 80)) q19 80 #[.int .i64 fc, .int .i64 0, .int .i64 fy, .bool false, .int .i64 0, .int .i64 0] ∧ Blk (w11.alloc (.cells #[.int .i64 130, .int .i64 0, .int .i64 0, .bool false, .int .i64 0, .int .i64 0] 80)) q20 80 #[.int .i64 fc, .int .i64 0, .int .i64 fy, .bool false, .int .i64 0, .int .i64 0] ∧ Blk (w11.alloc (.cells #[.int .i64 130, .int .i64 0, .int .i64 0, .bool false, .int .i64 0, .int .i64 0] 80)) w11.heap.size 80 #[.int .i64 130, .int .i64 0, .int .i64 0, .bool false, .int .i64 0, .int .i64 0]) := ⟨(HB10.out.1.farT hf11 (by decide)).alloc _, (HB10.out.2.farT hf11 (by decide)).alloc _, Blk.new w11 80 _⟩
        clear hf11
        go_upto_region 15 with fail
        obtain ⟨q23, hq23⟩ : ∃ q23, q23 = w11.heap.size := ⟨_, rfl⟩
        obtain ⟨w12, hw12⟩ : ∃ w12, w12 = w11.alloc (.cells #[.int .i64 130, .int .i64 0, .int .i64 0, .bool false, .int .i64 0, .int .i64 0] 80) := ⟨_, rfl⟩
        rw [← hw12] at HI11 HL11 HB11 ⊢
        rw [← hq23] at HB11 ⊢
        clear hq23 hw12
        have hc12 := HTc.out w12 HI11.out.tw.same
        have HGw : Hid (w.heap.size ≤ g) := Nat.le_trans HI5.out.tw.same.size HG6.out
        go_wp2_with fail
        refine (held_any w12 lv6 _ t g HL11.out (HRp.out.far HI11.out.tw.same (fun k hk => by rw [hk]; exact HGw.out)) htl).mono ?_
        rintro e w13 ⟨rfl, ht13⟩
        have hpts : ∀ x ∈ (N5 ++ X7).map (·.1), x.points = true → x.args = [] := by
          rw [List.map_append, HX7.out]
          exact ldN_pts HP5.out
        have HI13 := Lib.hid (HI11.out.lent HL11.out HGw.out ht13 (sound_pos HSn.out hpts) HGn.out)
        have hne13 : ∀ q cs, Blk w12 q 80 cs → q ≠ g := fun q cs hB e => by
          obtain ⟨c, _, _, ho⟩ := HL11.out
          exact own_blk_ne ho hB (by decide) (by rw [e]; rfl)
        obtain ⟨x0, x1, x2, x3, x4, x5⟩ := (HB11.out.1.turned ht13 (hne13 _ _ HB11.out.1)).six
        obtain ⟨y0, y1, y2, y3, y4, y5⟩ := (HB11.out.2.1.turned ht13 (hne13 _ _ HB11.out.2.1)).six
        obtain ⟨z0, z1, z2, z3, z4, z5⟩ := (HB11.out.2.2.turned ht13 (hne13 _ _ HB11.out.2.2)).six
        have HN : Hid (LsP w w13 bs bm vs L lu b r room) := by
          refine ⟨v10, u8, N5 ++ X7, M5 ++ Y8, HI13.out, ?_, HSn.out, hpts⟩
          rw [List.map_append, List.map_append, HX7.out, HY8.out, HE5.out]
        clear ht13 hpts hne13 hc12
        go_wp2_with fail
        exact ⟨⟨k + 1, by omega, by go_num, HN.out⟩, by simp [intOf]; omega⟩
      · have hkk : k = T.length := by omega
        subst hkk
        have hN4 : N5.length ≤ 4000 := by have h1 := HS5.out.len; rw [List.length_map] at h1; omega
        have HN4 := Lib.hid hN4
        have HAa : Hid (∀ x ∈ N5.map (·.1), x.args.length ≤ 17592186044416) := fun x hx => by have := HS5.out.a6 x hx; omega
        go_wp2_with fail
        refine (told_any w5 b room v5 N5 HI5.out.tw.hp HN4.out (fun x hx => HAa.out x.1 (List.mem_map_of_mem hx))).mono ?_
        rintro e w6 ⟨u6, K6, rfl, hT6, hK6⟩
        have hRd := hT6.rd
        rw [hK6] at hRd
        have HRd := Lib.hid hRd
        have HI6 := Lib.hid (HI5.out.later hT6.same)
        have hrd2 := HI6.out.tw.rp.rhp.rd
        rw [HE5.out] at hrd2
        have HRd2 := Lib.hid hrd2
        have b1 : w6.cell? ⟨r, 1, none⟩ = some u5 := (HI6.out.tw.rp.blk.cell 1).trans rfl
        clear hT6 hK6 hRd hrd2 hN4
        go_wp2_with fail
        refine (sameNodes_eq w6 _ _ (N5.map (·.1)) HRd.out HRd2.out (by rw [List.length_map]; have := HN4.out; omega) HAa.out).mono ?_
        rintro e w7 ⟨rfl, hs7⟩
        have HS7 : Hid (Same w w7) := HI6.out.tw.same.trans hs7 (fun _ h => h.elim)
        clear hs7
        go_wp2_with fail
        all_goals go_ret
        all_goals exact ⟨rfl, HS7.out⟩
end Go.Proofs.Yteohhiefchoamaa
