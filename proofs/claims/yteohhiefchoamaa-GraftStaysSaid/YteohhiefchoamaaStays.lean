/-
  The walk of GraftStays.
-/
import Derived.Test.YteohhiefchoamaaStaysLaw
import Derived.Deep.RegionHeld3
import Derived.Deep.DrawnRows
namespace Go.Proofs.Yteohhiefchoamaa
open Go.RowKit
attribute [local go_sem ↓] Go.wp_at_zero Go.wp_at_succ

/-- Between two Builds: what was there stands ahead of what is new. -/
structure StI (w wr : World) (bs bm : Nat) (vs : Value) (L : List Sym) (b : Nat) (v : Value) (N : List NV) (K : List Nd) : Prop where
  sh : SH w wr bs bm vs L b 4000 v N
  pre : ∃ X, N.map (·.1) = K ++ X ∧ ∀ x ∈ X, x.points = false ∧ x.mark = 0
  snd : Sound (N.map (·.1)) 4000
theorem StI.later {w wr w' : World} {bs bm b : Nat} {vs v : Value} {L : List Sym} {N : List NV} {K : List Nd} (h : StI w wr bs bm vs L b v N K) (ht : Same wr w') : StI w w' bs bm vs L b v N K := ⟨h.sh.later ht, h.pre, h.snd⟩
theorem StI.step {w wr w' : World} {bs bm b : Nat} {vs v v' : Value} {L : List Sym} {N M : List NV} {K : List Nd} {P : List (Int × Int)} (h : StI w wr bs bm vs L b v N K) (hL : ∀ x ∈ L, 0 ≤ x.arity ∧ x.arity ≤ 6) (hI : Items L (N.map (·.1)) 4000 P)
    (hh : HeapAt w' b 4000 v' (N ++ M)) (hM : M.map (·.1) = (layF L N.length P).2) (ht : Turned (hfoot b v) wr w') (hv : v'.ownBlock = v.ownBlock ∨ ∃ k, v'.ownBlock = some k ∧ wr.heap.size ≤ k) : StI w w' bs bm vs L b v' (N ++ M) K := by
  obtain ⟨X, hX, hX2⟩ := h.pre
  refine ⟨h.sh.step hh ht hv, ⟨X ++ M.map (·.1), by rw [List.map_append, hX, List.append_assoc], fun x hx => ?_⟩, ?_⟩
  · rcases List.mem_append.1 hx with h1 | h1
    · exact hX2 x h1
    · rw [hM] at h1; exact layF_new L _ P x h1
  · rw [List.map_append, hM]
    have := h.snd.lay hL hI
    rwa [List.length_map] at this
theorem StI.args {w wr : World} {bs bm b : Nat} {vs v : Value} {L : List Sym} {N : List NV} {K : List Nd} (h : StI w wr bs bm vs L b v N K) : ∀ x ∈ N, x.1.args.length ≤ 17592186044416 := by
  intro x hx
  have := h.snd.a6 x.1 (List.mem_map_of_mem hx)
  omega

def StOut (w wr w' : World) (bs bm : Nat) (vs : Value) (L : List Sym) (b : Nat) (v : Value) (K : List Nd) (a : Int) (ev : Value) : Prop :=
  ∃ v' N', StI w w' bs bm vs L b v' N' K ∧ ((∃ q, ev = .iface 104 (.pointer (some ⟨q, 0, none⟩))) ∨ (ev = .nilIface ∧ 0 ≤ a ∧ a < N'.length)) ∧ Turned (hfoot b v) wr w'
theorem StI.build {w wr : World} {bs bm b : Nat} {vs v : Value} {L : List Sym} {N : List NV} {K : List Nd} (h : StI w wr bs bm vs L b v N K) (hL : ∀ x ∈ L, 0 ≤ x.arity ∧ x.arity ≤ 6) (va vb vc rv : Value) (R : List (List PartD)) (hR : RightsAt w (fun k => w.heap.size ≤ k) rv R) (hlen : ∀ Q ∈ R, Q.length ≤ 4398046511104) (hlen2 : ∀ Q ∈ R, ∀ q ∈ Q, q.path.length ≤ 17592186044416) (rule node : Int) :
    Calls Try.prog 13 #[.pointer (some ⟨bs, 0, none⟩), .agg #[va, vb, vc, rv], .pointer (some ⟨b, 0, none⟩), .int .i64 rule, .int .i64 node] wr fun e w' => ∃ a ev, e = .returned (.tuple #[.int .i64 a, ev]) ∧ StOut w wr w' bs bm vs L b v K a ev := by
  refine (buildx wr bs bm vs L h.sh.sig hL b 4000 v N h.sh.hp h.snd.rk (by decide) (by have := h.snd.len; simpa using this) h.args va vb vc rv R ((hR.same h.sh.same).weak h.sh.new) hlen hlen2 rule node).mono ?_
  rintro e w' (⟨c, i, y, ev, hb, rfl, ⟨q, rfl, _, _⟩, hs⟩ | ⟨v', M, a, hb, ha, rfl, hh, hM, ht, hv⟩)
  · exact ⟨0, _, rfl, v, N, h.later hs, .inl ⟨q, rfl⟩, hs.mono (fun _ h => h.elim)⟩
  · have hI := items_build h.snd.rk hb
    refine ⟨a, _, rfl, v', N ++ M, h.step hL hI hh hM ht hv, .inr ⟨rfl, ?_⟩, ht⟩
    have h1 := hI.root (by rw [List.length_map]; exact ha)
    rw [List.length_map, ← hM, List.length_map] at h1
    rw [List.length_append]
    exact h1
theorem StI.load {w wr : World} {bs bm b : Nat} {vs v : Value} {L : List Sym} {N : List NV} {K : List Nd} (h : StI w wr bs bm vs L b v N K) (hL : ∀ x ∈ L, 0 ≤ x.arity ∧ x.arity ≤ 6) (tv : Value) (t : List Int) (hR : Rd w tv t) (hlen : t.length ≤ 17592186044416) :
    Calls Try.prog 15 #[.pointer (some ⟨bs, 0, none⟩), .pointer (some ⟨b, 0, none⟩), tv] wr fun e w' => ∃ a ev, e = .returned (.tuple #[.int .i64 a, ev]) ∧ StOut w wr w' bs bm vs L b v K a ev := by
  have hRd : RdS wr (hfoot b v) tv t := by
    obtain ⟨A, c, rfl, h1⟩ := hR.same_ h.sh.same
    refine ⟨A, c, rfl, fun h0 => ?_⟩
    obtain ⟨bl, off, rfl, hc⟩ := h1 h0
    refine ⟨bl, off, rfl, fun hf => ?_, hc⟩
    obtain ⟨A', c', e', h1'⟩ := hR
    obtain ⟨bl', off', e1', hc'⟩ := h1' h0
    have h2 := World.block_lt_of_cell? _ _ (hc' 0 h0)
    have h3 := h.sh.new _ hf
    rw [e1'] at e'
    injection e' with h4
    injection h4 with h4
    injection h4 with h4
    simp only at h2
    omega
  refine (load_any wr bs bm vs L h.sh.sig hL b 4000 v N h.sh.hp (by decide) tv t hRd hlen (by have := h.snd.len; simpa using this)).mono ?_
  rintro e w' (⟨c, y, ev, hb, rfl, ⟨q, rfl, _, _⟩, hs⟩ | ⟨v', M, a, hb, ha, rfl, hh, hM, ht, hv⟩)
  · exact ⟨0, _, rfl, v, N, h.later hs, .inl ⟨q, rfl⟩, hs.mono (fun _ h => h.elim)⟩
  · have hb2 : loadBad L 4000 (N.map (·.1)).length t = none := by rw [List.length_map]; exact hb
    have hI := items_load hb2
    refine ⟨a, _, rfl, v', N ++ M, h.step hL hI hh hM ht hv, .inr ⟨rfl, ?_⟩, ht⟩
    have h1 := hI.root (by rw [List.length_map]; exact ha)
    rw [List.length_map, ← hM, List.length_map] at h1
    rw [List.length_append]
    exact h1

set_option maxRecDepth 100000 in
set_option maxHeartbeats 8000000 in
theorem stays_law (w : World) (vX lv rv tv vt : Value) (X : List Sym) (K : List Nd) (R : List (List PartD)) (T : List (Int × Int)) (t : List Int)
    (hX : SymRd w vX X) (hs : ∀ x ∈ X, x.name.size ≤ maxLen) (hl : X.length ≤ 17592186044416) (hK : NdRd w lv K) (hKa : ∀ x ∈ K, x.args.length ≤ 17592186044416) (hRt : RightsAt w (fun k => w.heap.size ≤ k) rv R) (hRl : ∀ Q ∈ R, Q.length ≤ 4398046511104) (hRp : ∀ Q ∈ R, ∀ q ∈ Q, q.path.length ≤ 17592186044416) (hT : TryRd w tv T) (hTl : T.length ≤ 17592186044416) (hR : Rd w vt t) (htl : t.length ≤ 17592186044416) :
    Calls Try.prog 3 #[vX, lv, rv, tv, vt] w fun e w' => e = .returned (.bool true) ∧ Same w w' := by
  have HX := Lib.hid hX; have HSz := Lib.hid hs; have HL := Lib.hid hl; have HK := Lib.hid hK; have HKa := Lib.hid hKa; have HRt := Lib.hid hRt; have HRl := Lib.hid hRl; have HRp := Lib.hid hRp; have HT := Lib.hid hT; have HR := Lib.hid hR; have HTl := Lib.hid htl
  obtain ⟨XA, xc, rfl, _⟩ := hX
  obtain ⟨KA, kc, rfl, _⟩ := hK
  obtain ⟨RA, rc, rfl, _⟩ := hRt
  obtain ⟨TA, tc, rfl, _⟩ := hT
  obtain ⟨tA, tc', rfl, _⟩ := hR
  clear hs hKa hRl hRp
  go_enter Try.func3, Try.ntmps3
  go_wp2_with fail
  refine (awake_any _).mono ?_
  rintro e w0 ⟨rfl, hs0⟩
  have HS0 := Lib.hid hs0
  clear hs0
  go_wp2_with fail
  refine (signature_any _ _ X (HX.out.same HS0.out) HSz.out HL.out).mono ?_
  rintro e w1 ⟨bs, bm, vs, u, rfl, hsg, _, hs1, hn1, _⟩
  have HAr := Lib.hid (sigL_ar X)
  obtain ⟨L, hLe⟩ : ∃ L, L = sigL X := ⟨_, rfl⟩
  rw [← hLe] at hsg HAr
  have HSg := Lib.hid hsg
  have HS1 : Hid (Same w w1) := HS0.out.trans hs1 (fun _ h => h.elim)
  clear hsg hs1 hn1 hLe
  go_wp2_with fail
  refine (made_any w1 4000 _ K (HK.out.same HS1.out) HKa.out).mono ?_
  rintro e w2 (⟨rfl, hs2⟩ | ⟨b, r, v, ur, N, M, rfl, hTw, hN, hM, hmp, hrk, _, _, hKl⟩)
  · have HS2 : Hid (Same w w2) := HS1.out.trans hs2 (fun _ h => h.elim)
    clear hs2
    go_wp2_with fail
    all_goals go_ret
    all_goals exact ⟨rfl, HS2.out⟩
  · have HI2 : Hid (StI w w2 bs bm vs L b v N K) := by
      refine ⟨⟨HS1.out.trans hTw.same (fun _ h => h.elim), HSg.out.turned hTw.same (fun _ _ h => h), hTw.hp, fun k hk => Nat.le_trans HS1.out.size (hTw.newh k hk)⟩, ⟨[], by rw [List.append_nil]; exact hN, by simp⟩, ?_⟩
      rw [hN]
      exact ⟨hrk, fun x hx => (hmp x hx).len, hKl⟩
    have hKl4 : K.length ≤ 4000 := by omega
    clear hTw hN hM hmp hrk hKl
    go_wp2_with fail
    obtain ⟨q, hq⟩ : ∃ q, q = w2.heap.size := ⟨_, rfl⟩
    obtain ⟨w3, hw3⟩ : ∃ w3, w3 = w2.alloc (.cells #[.slice none 0 0, .slice none 0 0, .slice none 0 0, .slice RA R.length rc] 39) := ⟨_, rfl⟩
    have HI3 : Hid (StI w w3 bs bm vs L b v N K ∧ Blk w3 q 39 #[.slice none 0 0, .slice none 0 0, .slice none 0 0, .slice RA R.length rc]) := by
      rw [hw3, hq]
      exact ⟨HI2.out.later ((Turned.refl _ _).alloc _), Blk.new w2 39 _⟩
    rw [← hq, ← hw3]
    clear hq hw3
    go_loopw [17] (fun i wr => ∃ k : Nat, k ≤ T.length ∧ k ≤ 30 ∧ i = .int .i64 k ∧ Hid (∃ v N, StI w wr bs bm vs L b v N K ∧ Blk wr q 39 #[.slice none 0 0, .slice none 0 0, .slice none 0 0, .slice RA R.length rc])) (fun i _ => T.length - (intOf i).toNat)
    case atStart => exact ⟨0, Nat.zero_le _, by omega, rfl, v, N, HI3.out⟩
    case round =>
      obtain ⟨k, hk, hk30, rfl, HV⟩ := hrel
      obtain ⟨v1, N1, hI, hB⟩ := HV.out
      have HI := Lib.hid hI; have HB := Lib.hid hB
      clear hI hB HV
      by_cases hgo : k < T.length ∧ k < 30
      · obtain ⟨hlt, h30⟩ := hgo
        obtain ⟨A', c', e, hA⟩ := HT.out.same HI.out.sh.same
        injection e with e1 _ e2
        subst e1; subst e2
        obtain ⟨bl, off, rfl, hc⟩ := hA (by omega)
        obtain ⟨t0, t1⟩ := hc k hlt
        obtain ⟨⟨ru, no⟩, hx⟩ : ∃ x, x = T[k] := ⟨_, rfl⟩
        rw [← hx] at t0 t1
        simp only at t0 t1
        obtain ⟨b0, b1, b2, b3⟩ : wr.cell? ⟨q, 0, none⟩ = some (.slice none 0 0) ∧ wr.cell? ⟨q, 1, none⟩ = some (.slice none 0 0) ∧ wr.cell? ⟨q, 2, none⟩ = some (.slice none 0 0) ∧ wr.cell? ⟨q, 3, none⟩ = some (.slice RA R.length rc) := ⟨(HB.out.cell 0).trans rfl, (HB.out.cell 1).trans rfl, (HB.out.cell 2).trans rfl, (HB.out.cell 3).trans rfl⟩
        have hk0 : (0 : Int) ≤ k := by omega
        have hk1 : (k : Int) < T.length := by omega
        have hk2 : (k : Int) < 30 := by omega
        clear hc hA hx
        go_upto_region 10 with fail
        have hnq : ¬ hfoot b v1 q := by
          rintro (e | e)
          · exact Blk.ne_ HB.out HI.out.sh.hp.blk (by decide) e
          · exact own_blk_ne HI.out.sh.hp.own HB.out (by decide) e
        have hbw : bl < w.heap.size := by
          obtain ⟨A2, c2, e2, hA2⟩ := HT.out
          injection e2 with e3 _ _
          obtain ⟨bl2, off2, e4, hc2⟩ := hA2 (by omega)
          rw [e4] at e3
          injection e3 with e3
          injection e3 with e3
          rw [e3]
          exact World.block_lt_of_cell? _ _ (hc2 0 (by omega)).1
        have hnb : ¬ hfoot b v1 bl := fun h => by have := HI.out.sh.new bl h; omega
        have HNq := Lib.hid hnq; have HNb := Lib.hid hnb
        have hblw : bl < wr.heap.size := by have := HI.out.sh.same.size; omega
        have HBl := Lib.hid hblw
        have HC0 := Lib.hid t0; have HC1 := Lib.hid t1
        clear hnq hnb hblw hbw
        go_region_held3 (fun w' => w'.cell? ⟨q, 0, none⟩ = some (.slice none 0 0) ∧ w'.cell? ⟨q, 1, none⟩ = some (.slice none 0 0) ∧ w'.cell? ⟨q, 2, none⟩ = some (.slice none 0 0) ∧ w'.cell? ⟨q, 3, none⟩ = some (.slice RA R.length rc) ∧ w'.cell? ⟨bl, off + k * 2, none⟩ = some (.int .i64 ru) ∧ w'.cell? ⟨bl, off + k * 2 + 1, none⟩ = some (.int .i64 no)) (go_keep) ((go_at_call 13; refine ((HI.out.later ((Turned.refl _ _).drew)).build HAr.out _ _ _ _ R HRt.out HRl.out HRp.out ru no).mono ?_; rintro e w4 ⟨a4, ev4, rfl, hO⟩; have HO : Hid (∃ v' N', StI w w4 bs bm vs L b v' N' K ∧ ((∃ q, ev4 = .iface 104 (.pointer (some ⟨q, 0, none⟩))) ∨ (ev4 = .nilIface ∧ 0 ≤ a4 ∧ a4 < N'.length)) ∧ Turned (hfoot b v1) wr.drew w4) := hO; have HT4 : Hid (Turned (hfoot b v1) wr w4) := (by obtain ⟨_, _, _, _, h4⟩ := hO; exact ((Turned.refl _ _).drew).trans h4 (fun i hi => .inl hi)); have HB4 : Hid (Blk w4 q 39 #[.slice none 0 0, .slice none 0 0, .slice none 0 0, .slice RA R.length rc]) := HB.out.turned HT4.out HNq.out; have x0 : w4.cell? ⟨q, 0, none⟩ = some (.slice none 0 0) := (HB4.out.cell 0).trans rfl; have x1 : w4.cell? ⟨q, 1, none⟩ = some (.slice none 0 0) := (HB4.out.cell 1).trans rfl; have x2 : w4.cell? ⟨q, 2, none⟩ = some (.slice none 0 0) := (HB4.out.cell 2).trans rfl; have x3 : w4.cell? ⟨q, 3, none⟩ = some (.slice RA R.length rc) := (HB4.out.cell 3).trans rfl; have x4 : w4.cell? ⟨bl, off + k * 2, none⟩ = some (.int .i64 ru) := (HT4.out.cell (p := ⟨bl, off + k * 2, none⟩) HBl.out HNb.out).trans HC0.out; have x5 : w4.cell? ⟨bl, off + k * 2 + 1, none⟩ = some (.int .i64 no) := (HT4.out.cell (p := ⟨bl, off + k * 2 + 1, none⟩) HBl.out HNb.out).trans HC1.out; clear hO))
        obtain ⟨v5, N5, hI5, hor, _⟩ := HO.out
        have HI5 := Lib.hid hI5
        clear hI5 HO x0 x1 x2 x3 x4 x5 b0 b1 b2 b3 t0 t1
        rcases hor with ⟨q5, rfl⟩ | ⟨rfl, ha0, ha1⟩
        · go_wp2_with fail
          go_roundw
          case rel => exact ⟨k + 1, by omega, by omega, by go_num, v5, N5, HI5.out, HB4.out⟩
          case measure => simp [intOf]; omega
        · go_wp2_with (go_at_call 14; refine (used_any _ b 4000 v5 N5 HI5.out.sh.hp).mono ?_; rintro e w' ⟨rfl, rfl⟩)
          go_roundw
          case rel => exact ⟨k + 1, by omega, by omega, by go_num, v5, N5, HI5.out, HB4.out⟩
          case measure => simp [intOf]; omega
      · by_cases hlt : k < T.length
        · have hkk : k = 30 := by omega
          subst hkk
          have hk1 : ((30 : Nat) : Int) < T.length := by omega
          have HI5 := HI
          clear HB
          go_wp2_with fail
          refine (HI5.out.load HAr.out _ t HR.out htl).mono ?_
          rintro e w5 ⟨a5, ev5, rfl, v5, N5, hI5, _, _⟩
          have HI6 := Lib.hid hI5
          clear hI5
          go_wp2_with fail
          refine (told_any w5 b 4000 v5 N5 HI6.out.sh.hp (by have := HI6.out.snd.len; simp at this; omega) HI6.out.args).mono ?_
          rintro e w6 ⟨u6, M6, rfl, hT6, hM6⟩
          obtain ⟨Y, hY, hY2⟩ := HI6.out.pre
          have HM6 : Hid (M6.map (·.1) = K ++ Y ∧ (∀ x ∈ Y, x.points = false ∧ x.mark = 0) ∧ Sound (K ++ Y) 4000) := ⟨hM6.trans hY, hY2, by rw [← hY]; exact HI6.out.snd⟩
          have HS6 : Hid (Same w w6) := HI6.out.sh.same.trans hT6.same (fun _ h => h.elim)
          have hRd := hT6.rd
          rw [HM6.out.1] at hRd
          have HRd := Lib.hid hRd
          obtain ⟨ua, uc, rfl, huc1, _⟩ := own_shape hT6.own
          have hMl : M6.length = K.length + Y.length := by
            have h1 := congrArg List.length HM6.out.1
            rwa [List.length_map, List.length_append] at h1
          obtain ⟨ml, hml⟩ : ∃ ml, ml = M6.length := ⟨_, rfl⟩
          rw [← hml] at huc1 hMl HRd ⊢
          have hml4 : ml ≤ 4000 := by
            have h1 := HM6.out.2.2.len
            rw [List.length_append] at h1
            omega
          have HMl := Lib.hid hMl
          have hge : ¬ (ml : Int) < K.length := by omega
          have hge2 : ¬ ml < K.length := by omega
          have hlu : K.length ≤ uc := by omega
          clear hT6 hM6 hY hY2 hRd hml hMl
          go_wp2_with fail
          refine (sameNodes_eq w6 _ _ K (by
            have h1 := NdRd.take (K := K ++ Y) (A := ua) (c := uc) (by have h2 := HRd.out; rwa [HMl.out, ← List.length_append] at h2) K.length (by simp) uc
            rwa [List.take_left'] at h1
            rfl) (HK.out.same HS6.out) (by omega) HKa.out).mono ?_
          rintro e w7 ⟨rfl, hs7⟩
          have HS7 : Hid (Same w w7) := HS6.out.trans hs7 (fun _ h => h.elim)
          have HRd7 := Lib.hid (HRd.out.same hs7)
          clear hs7
          go_wp2_with fail
          refine (rring_any w7 _ (K ++ Y) HRd7.out HM6.out.2.2.rk.inK (by have := HM6.out.2.2.len; omega) (fun x hx => by have := HM6.out.2.2.a6 x hx; omega)).mono ?_
          rintro e w8 ⟨⟨bb, rfl, hbb⟩, hs8⟩
          obtain rfl : bb = false := hbb.2 HM6.out.2.2.rk
          have HS8 : Hid (Same w w8) := HS7.out.trans hs8 (fun _ h => h.elim)
          have HRd8 := Lib.hid (HRd7.out.same hs8)
          clear hs8 hbb
          go_wp2_with fail
          go_loopw [24] (fun i wr => ∃ j : Nat, K.length ≤ j ∧ j ≤ ml ∧ i = .int .i64 j ∧ Hid (Same w8 wr)) (fun i _ => ml - (intOf i).toNat)
          case atStart => exact ⟨K.length, Nat.le_refl _, by omega, rfl, Turned.refl _ _⟩
          case round =>
            obtain ⟨j, hj1, hj2, rfl, HV⟩ := hrel
            by_cases hlj : j < ml
            · have hjl : j < (K ++ Y).length := by rw [List.length_append, ← HMl.out]; exact hlj
              have hjx : (K ++ Y)[j] ∈ Y := by
                rw [List.getElem_append_right hj1]
                exact List.getElem_mem _
              obtain ⟨hp0, hm0⟩ := HM6.out.2.1 _ hjx
              obtain ⟨bl, off, c', aA, ac, e, d0, d1, d2, d3, d4, hR0, _⟩ := HRd8.out.get HV.out j _ (List.getElem?_eq_getElem hjl)
              injection e with e1 e3 e2
              clear e3
              subst e1; subst e2
              rw [hp0] at d3
              rw [hm0] at d2
              have hjz : (0 : Int) ≤ j := by omega
              have hjm : (j : Int) < ml := by omega
              clear d0 d1 d4 hR0 hjx hp0 hm0 hjl
              go_wp2_with fail
              go_roundw
              case rel => exact ⟨j + 1, by omega, by omega, by go_num, HV.out⟩
              case measure => simp [intOf]; omega
            · have hjj : j = ml := by omega
              subst hjj
              go_wp2_with fail
              all_goals go_ret
              all_goals exact ⟨rfl, HS8.out.trans HV.out (fun _ h => h.elim)⟩
        · have hkk : k = T.length := by omega
          subst hkk
          have HI5 := HI
          clear HB
          go_wp2_with fail
          refine (HI5.out.load HAr.out _ t HR.out htl).mono ?_
          rintro e w5 ⟨a5, ev5, rfl, v5, N5, hI5, _, _⟩
          have HI6 := Lib.hid hI5
          clear hI5
          go_wp2_with fail
          refine (told_any w5 b 4000 v5 N5 HI6.out.sh.hp (by have := HI6.out.snd.len; simp at this; omega) HI6.out.args).mono ?_
          rintro e w6 ⟨u6, M6, rfl, hT6, hM6⟩
          obtain ⟨Y, hY, hY2⟩ := HI6.out.pre
          have HM6 : Hid (M6.map (·.1) = K ++ Y ∧ (∀ x ∈ Y, x.points = false ∧ x.mark = 0) ∧ Sound (K ++ Y) 4000) := ⟨hM6.trans hY, hY2, by rw [← hY]; exact HI6.out.snd⟩
          have HS6 : Hid (Same w w6) := HI6.out.sh.same.trans hT6.same (fun _ h => h.elim)
          have hRd := hT6.rd
          rw [HM6.out.1] at hRd
          have HRd := Lib.hid hRd
          obtain ⟨ua, uc, rfl, huc1, _⟩ := own_shape hT6.own
          have hMl : M6.length = K.length + Y.length := by
            have h1 := congrArg List.length HM6.out.1
            rwa [List.length_map, List.length_append] at h1
          obtain ⟨ml, hml⟩ : ∃ ml, ml = M6.length := ⟨_, rfl⟩
          rw [← hml] at huc1 hMl HRd ⊢
          have hml4 : ml ≤ 4000 := by
            have h1 := HM6.out.2.2.len
            rw [List.length_append] at h1
            omega
          have HMl := Lib.hid hMl
          have hge : ¬ (ml : Int) < K.length := by omega
          have hge2 : ¬ ml < K.length := by omega
          have hlu : K.length ≤ uc := by omega
          clear hT6 hM6 hY hY2 hRd hml hMl
          go_wp2_with fail
          refine (sameNodes_eq w6 _ _ K (by
            have h1 := NdRd.take (K := K ++ Y) (A := ua) (c := uc) (by have h2 := HRd.out; rwa [HMl.out, ← List.length_append] at h2) K.length (by simp) uc
            rwa [List.take_left'] at h1
            rfl) (HK.out.same HS6.out) (by omega) HKa.out).mono ?_
          rintro e w7 ⟨rfl, hs7⟩
          have HS7 : Hid (Same w w7) := HS6.out.trans hs7 (fun _ h => h.elim)
          have HRd7 := Lib.hid (HRd.out.same hs7)
          clear hs7
          go_wp2_with fail
          refine (rring_any w7 _ (K ++ Y) HRd7.out HM6.out.2.2.rk.inK (by have := HM6.out.2.2.len; omega) (fun x hx => by have := HM6.out.2.2.a6 x hx; omega)).mono ?_
          rintro e w8 ⟨⟨bb, rfl, hbb⟩, hs8⟩
          obtain rfl : bb = false := hbb.2 HM6.out.2.2.rk
          have HS8 : Hid (Same w w8) := HS7.out.trans hs8 (fun _ h => h.elim)
          have HRd8 := Lib.hid (HRd7.out.same hs8)
          clear hs8 hbb
          go_wp2_with fail
          go_loopw [24] (fun i wr => ∃ j : Nat, K.length ≤ j ∧ j ≤ ml ∧ i = .int .i64 j ∧ Hid (Same w8 wr)) (fun i _ => ml - (intOf i).toNat)
          case atStart => exact ⟨K.length, Nat.le_refl _, by omega, rfl, Turned.refl _ _⟩
          case round =>
            obtain ⟨j, hj1, hj2, rfl, HV⟩ := hrel
            by_cases hlj : j < ml
            · have hjl : j < (K ++ Y).length := by rw [List.length_append, ← HMl.out]; exact hlj
              have hjx : (K ++ Y)[j] ∈ Y := by
                rw [List.getElem_append_right hj1]
                exact List.getElem_mem _
              obtain ⟨hp0, hm0⟩ := HM6.out.2.1 _ hjx
              obtain ⟨bl, off, c', aA, ac, e, d0, d1, d2, d3, d4, hR0, _⟩ := HRd8.out.get HV.out j _ (List.getElem?_eq_getElem hjl)
              injection e with e1 e3 e2
              clear e3
              subst e1; subst e2
              rw [hp0] at d3
              rw [hm0] at d2
              have hjz : (0 : Int) ≤ j := by omega
              have hjm : (j : Int) < ml := by omega
              clear d0 d1 d4 hR0 hjx hp0 hm0 hjl
              go_wp2_with fail
              go_roundw
              case rel => exact ⟨j + 1, by omega, by omega, by go_num, HV.out⟩
              case measure => simp [intOf]; omega
            · have hjj : j = ml := by omega
              subst hjj
              go_wp2_with fail
              all_goals go_ret
              all_goals exact ⟨rfl, HS8.out.trans HV.out (fun _ h => h.elim)⟩
end Go.Proofs.Yteohhiefchoamaa
