/-
  The walk of the document's Load.
-/
import Derived.Test.YteohhiefchoamaaRLoadLaw
import Derived.Deep.RegionHeld3
import Derived.IntWalk
import Derived.Deep.DrawnRows
namespace Go.Proofs.Yteohhiefchoamaa
open Go.RowKit
attribute [local go_sem ↓] Go.wp_at_zero Go.wp_at_succ

theorem set6 {w : World} {g : Nat} {t : TypeId} {a' b' c' d' e' f' : Value} (hb : Blk w g t #[a', b', c', d', e', f']) (a b c d e f : Value) : Blk ((((((w.setCell ⟨g, 0, none⟩ a).setCell ⟨g, 1, none⟩ b).setCell ⟨g, 2, none⟩ c).setCell ⟨g, 3, none⟩ d).setCell ⟨g, 4, none⟩ e).setCell ⟨g, 5, none⟩ f) g t #[a, b, c, d, e, f] ∧
    Turned (fun k => k = g) w ((((((w.setCell ⟨g, 0, none⟩ a).setCell ⟨g, 1, none⟩ b).setCell ⟨g, 2, none⟩ c).setCell ⟨g, 3, none⟩ d).setCell ⟨g, 4, none⟩ e).setCell ⟨g, 5, none⟩ f) :=
  ⟨(((((hb.set_ 0 a).set_ 1 b).set_ 2 c).set_ 3 d).set_ 4 e).set_ 5 f, ((((((Turned.refl (fun k => k = g) w).setCell (p := ⟨g, 0, none⟩) (.inl rfl) a).setCell (p := ⟨g, 1, none⟩) (.inl rfl) b).setCell (p := ⟨g, 2, none⟩) (.inl rfl) c).setCell (p := ⟨g, 3, none⟩) (.inl rfl) d).setCell (p := ⟨g, 4, none⟩) (.inl rfl) e).setCell (p := ⟨g, 5, none⟩) (.inl rfl) f⟩
theorem RHeap.apart80 {w w' : World} {r q : Nat} {room : Int} {u : Value} {N : List NV} {cs : Array Value} (h : RHeap w r room u N) (hB : Blk w q 80 cs) (ht : Turned (fun k => k = q) w w') : RHeap w' r room u N :=
  ⟨h.blk.turned ht (fun e => Blk.ne_ h.blk hB (by decide) e), World.ownsRow.turned h.own ht (fun k hk e => own_blk_ne h.own hB (by decide) (by rw [hk, e])), fun x hx => World.ownsRow.turned (h.args x hx) ht (fun k hk e => own_blk_ne (h.args x hx) hB (by decide) (by rw [hk, e]))⟩
/-- Between two rounds: the nodes from the place m on are laid. -/
structure RLdI (w wr : World) (r : Nat) (room : Int) (u : Value) (N : List NV) (L : List Sym) (t : List Int) (m : Nat) (u' : Value) (M : List NV) : Prop where
  hp : RHeap wr r room u' (N ++ M)
  ms : M.map (·.1) = (layF L N.length ((lst t).drop m)).2
  tur : Turned (hfoot r u) w wr
  vown : u'.ownBlock = u.ownBlock ∨ ∃ j, u'.ownBlock = some j ∧ w.heap.size ≤ j
  anew : ∀ x ∈ M, ∀ k, x.2.ownBlock = some k → w.heap.size ≤ k
def RLoadRes (w : World) (L : List Sym) (r : Nat) (room : Int) (u : Value) (N : List NV) (t : List Int) (e : Ending) (w' : World) : Prop :=
  (∃ c y, loadBad L room N.length t = some (c, y) ∧ e = .returned (.tuple #[.int .i64 0, fl c 0 y]) ∧ Same w w') ∨
  (∃ u' M a, loadBad L room N.length t = none ∧ (layF L N.length (lst t)).1 = [a] ∧ e = .returned (.tuple #[.int .i64 a, fl 0 0 0]) ∧ RHeap w' r room u' (N ++ M) ∧ M.map (·.1) = (layF L N.length (lst t)).2 ∧ Turned (hfoot r u) w w' ∧ (u'.ownBlock = u.ownBlock ∨ ∃ j, u'.ownBlock = some j ∧ w.heap.size ≤ j) ∧ ∀ x ∈ M, ∀ k, x.2.ownBlock = some k → w.heap.size ≤ k)

set_option maxRecDepth 100000 in
set_option maxHeartbeats 8000000 in
theorem rload_any (w : World) (lu : Value) (L : List Sym) (hlu : w.ownsRow 0 84 3 lu L.length (symCells L)) (hL : ∀ x ∈ L, 0 ≤ x.arity ∧ x.arity ≤ 6) (r : Nat) (room : Int) (u : Value) (N : List NV) (h : RHeap w r room u N) (hr4 : room ≤ 4000) (hNr : (N.length : Int) ≤ room) (tv : Value) (t : List Int) (hl : RdS w (hfoot r u) tv t) (hlen : t.length ≤ 17592186044416) :
    Calls Try.prog 35 #[lu, .pointer (some ⟨r, 0, none⟩), tv] w fun e w' => RLoadRes w L r room u N t e w' := by
  have HLu := Lib.hid hlu; have HL := Lib.hid hL; have H := Lib.hid h; have HTv := Lib.hid hl
  obtain ⟨tA, tc, rfl, _⟩ := hl
  obtain ⟨k, hk⟩ : ∃ k, k = checkP L t := ⟨_, rfl⟩
  obtain ⟨i0, hi0, hz0, hz1, hz2⟩ := info_parts info3
  have HI : Hid (Try.prog.info? 3 = some i0 ∧ i0.zero = some (.int .i64 0) ∧ i0.size = 1 ∧ i0.bytes = 8) := ⟨hi0, hz0, hz1, hz2⟩
  clear hi0 hz0 hz1 hz2
  have HK := Lib.hid hk
  have HS0 : Hid (Same w (w.alloc (.cells #[.int .i64 0, .int .i64 0, .int .i64 0, .bool false, .int .i64 0, .int .i64 0] 80))) := (Turned.refl _ _).alloc _
  have HB0 : Hid (Blk (w.alloc (.cells #[.int .i64 0, .int .i64 0, .int .i64 0, .bool false, .int .i64 0, .int .i64 0] 80)) w.heap.size 80 #[.int .i64 0, .int .i64 0, .int .i64 0, .bool false, .int .i64 0, .int .i64 0]) := Blk.new w 80 _
  clear hlu hL h hk
  go_enter Try.func35, Try.ntmps35
  go_wp2_with fail
  obtain ⟨w0, hw0⟩ : ∃ w0, w0 = w.alloc (.cells #[.int .i64 0, .int .i64 0, .int .i64 0, .bool false, .int .i64 0, .int .i64 0] 80) := ⟨_, rfl⟩
  obtain ⟨q, hq⟩ : ∃ q, q = w.heap.size := ⟨_, rfl⟩
  have HQ : Hid (w.heap.size ≤ q) := by rw [hq]; exact Nat.le_refl _
  rw [← hw0] at HS0 HB0 ⊢
  rw [← hq] at HB0 ⊢
  clear hw0 hq
  refine (rcheck_any _ _ L (SymRd.of_own (World.ownsRow.same_ HLu.out HS0.out)) HL.out _ t (HTv.out.rd.same_ HS0.out) hlen).mono ?_
  rintro e w1 ⟨rfl, hs1⟩
  rw [← HK.out]
  have HS1 : Hid (Same w w1) := HS0.out.trans hs1 (fun _ h => h.elim)
  have HB1 := Lib.hid (HB0.out.turned hs1 (fun h => h))
  clear hs1 HB0 HS0
  obtain ⟨q0, q1, q2, q3, q4, q5⟩ := HB1.out.six
  have qf := fun i => HB1.out.frozen i
  have ql := HB1.out.lt
  by_cases hk0 : k = 0
  rotate_left
  · have hkb : (k == 0) = false := by rw [beq_eq_false_iff_ne]; exact hk0
    have HBd : Hid (loadBad L room N.length t = some (130, k)) := by unfold Hid loadBad; rw [if_pos (by rw [← HK.out]; exact hk0), ← HK.out]
    clear hk0
    go_wp2_with fail
    have X := set6 HB1.out (.int .i64 130) (.int .i64 0) (.int .i64 k) (.bool false) (.int .i64 0) (.int .i64 0)
    exact bodyPost_ret (results_f2 rfl _ rfl X.1) rfl (.inl ⟨130, k, HBd.out, rfl, HS1.out.trans X.2 (fun i hi => .inr (by rw [hi]; exact HQ.out))⟩)
  · subst hk0
    have HCk : Hid (t.length ≤ 2000 ∧ (∀ n ∈ t, n < L.length) ∧ Well L 1 t) := checkP_zero HK.out.symm
    have hlen2 : t.length ≤ 2000 := HCk.out.1
    go_wp2_with fail
    go_loopw [9] (fun i wr => ∃ m : Nat, m ≤ t.length ∧ i = .int .i64 m ∧ wr = w1 ∧ Hid (∀ n ∈ t.take m, 0 ≤ n)) (fun i _ => t.length - (intOf i).toNat)
    case atStart => exact ⟨0, Nat.zero_le _, rfl, rfl, by intro n hn; simp at hn⟩
    case round =>
      obtain ⟨m, hm, rfl, rfl, HPos⟩ := hrel
      by_cases hlt : m < t.length
      · obtain ⟨A2, c2, e, hA⟩ := HTv.out.rd.same_ HS1.out
        injection e with e1 _ e2
        subst e1; subst e2
        obtain ⟨bl, off, rfl, hc⟩ := hA (by omega)
        have hd := hc m hlt
        have htk : t.take (m + 1) = t.take m ++ [t[m]] := List.take_succ_eq_append_getElem hlt
        have hmem : t[m] ∈ t := List.getElem_mem _
        obtain ⟨x, hx⟩ : ∃ x, x = t[m] := ⟨_, rfl⟩
        rw [← hx] at hd htk hmem
        have HTk := Lib.hid htk; have HMem := Lib.hid hmem
        have hm0 : (0 : Int) ≤ m := by omega
        have hm1 : (m : Int) < t.length := by omega
        clear hc hA hx htk hmem
        by_cases hneg : x < 0
        · have HBd : Hid (loadBad L room N.length t = some (130, 0)) := by
            unfold Hid loadBad
            rw [if_neg (by rw [← HK.out]; simp), if_pos]
            exact List.any_eq_true.2 ⟨x, HMem.out, decide_eq_true hneg⟩
          go_wp2_with fail
          have X := set6 HB1.out (.int .i64 130) (.int .i64 0) (.int .i64 0) (.bool false) (.int .i64 0) (.int .i64 0)
          exact bodyPost_ret (results_f2 rfl _ rfl X.1) rfl (.inl ⟨130, 0, HBd.out, rfl, HS1.out.trans X.2 (fun i hi => .inr (by rw [hi]; exact HQ.out))⟩)
        · have HN : Hid (∀ n ∈ t.take (m + 1), 0 ≤ n) := by
            intro n hn
            rw [HTk.out, List.mem_append] at hn
            rcases hn with h1 | h1
            · exact HPos.out n h1
            · have : n = x := by simpa using h1
              omega
          go_wp2_with fail
          exact ⟨⟨m + 1, by omega, by go_num, trivial, HN.out⟩, by simp [intOf]; omega⟩
      · have hmm : m = t.length := by omega
        subst hmm
        rw [List.take_length] at HPos
        have HNo : Hid (¬ (t.any fun n => decide (n < 0)) = true) := by
          unfold Hid
          rw [List.any_eq_true]
          rintro ⟨x, hx, hn⟩
          have h1 := HPos.out x hx
          have h2 : x < 0 := by simpa using hn
          omega
        have HH1 := Lib.hid (H.out.same HS1.out)
        have b0 : wr.cell? ⟨r, 0, none⟩ = some (.int .i64 room) := (HH1.out.blk.cell 0).trans rfl
        obtain ⟨ua, uc, rfl, _, _⟩ := own_shape H.out.own
        have b1 : wr.cell? ⟨r, 1, none⟩ = some (.slice ua N.length uc) := (HH1.out.blk.cell 1).trans rfl
        have hwr : IntKind.i64.wrap (room - (N.length : Int)) = room - (N.length : Int) := IntWalk.i64_in _ (by omega)
        by_cases hfull : (t.length : Int) > room - N.length
        · have HBd : Hid (loadBad L room N.length t = some (131, 111)) := by
            unfold Hid loadBad
            rw [if_neg (by rw [← HK.out]; simp), if_neg HNo.out, if_pos (by omega)]
          have hfb : decide ((t.length : Int) > room - (N.length : Int)) = true := decide_eq_true hfull
          go_wp2_with fail
          go_quiet (fail)
          go_wp2_with fail
          have X := set6 (HB1.out.drewN nq) (.int .i64 131) (.int .i64 0) (.int .i64 111) (.bool false) (.int .i64 0) (.int .i64 0)
          exact bodyPost_ret (results_f2 rfl _ rfl X.1) rfl (.inl ⟨131, 111, HBd.out, rfl, (HS1.out.drewN nq).trans X.2 (fun i hi => .inr (by rw [hi]; exact HQ.out))⟩)
        · have HGd : Hid (loadBad L room N.length t = none) := by
            unfold Hid loadBad
            rw [if_neg (by rw [← HK.out]; simp), if_neg HNo.out, if_neg (by omega)]
          have hfb : decide ((t.length : Int) > room - (N.length : Int)) = false := decide_eq_false hfull
          go_wp2_with fail
          go_quiet (fail)
          obtain ⟨w2, hw2⟩ : ∃ w2, w2 = wr.drewN nq := ⟨_, rfl⟩
          have HS2 : Hid (Same w w2) := by rw [hw2]; exact HS1.out.drewN nq
          have HB2 : Hid (Blk w2 q 80 #[.int .i64 0, .int .i64 0, .int .i64 0, .bool false, .int .i64 0, .int .i64 0]) := by rw [hw2]; exact HB1.out.drewN nq
          have HH2 := Lib.hid (H.out.same HS2.out)
          have HT2 := Lib.hid (HTv.out.same HS2.out)
          have HL2 := Lib.hid (World.ownsRow.same_ HLu.out HS2.out)
          have b1' : w2.cell? ⟨r, 1, none⟩ = some (.slice ua N.length uc) := (HH2.out.blk.cell 1).trans rfl
          rw [← hw2]
          clear hw2 b0 b1 hwr hfb q0 q1 q2 q3 q4 q5 qf ql
          go_wp2_with fail
          clear b1'
          have hfull2 : (N.length : Int) + t.length ≤ room := by omega
          go_loopw [11] (fun i wr => ∃ m : Nat, m ≤ t.length ∧ i = .int .i64 ((m : Int) - 1) ∧ Hid (∃ u' M, RLdI w2 wr r room (.slice ua N.length uc) N L t m u' M)) (fun i _ => (intOf i + 1).toNat)
          case atStart => exact ⟨t.length, Nat.le_refl _, rfl, _, [], ⟨by rw [List.append_nil]; exact HH2.out, by rw [List.drop_eq_nil_of_le (by simp)]; rfl, Turned.refl _ _, .inl rfl, fun x hx => by simp at hx⟩⟩
          case round =>
            obtain ⟨m, hm, rfl, HV⟩ := hrel
            obtain ⟨u3, M3, hI⟩ := HV.out
            have HI3 := Lib.hid hI
            clear hI HV
            rename World => w3
            cases m with
            | zero =>
              rw [show ((0 : Nat) : Int) - 1 = -1 from rfl]
              have hML : M3.length = t.length := by
                have h2 := congrArg List.length HI3.out.ms
                rwa [List.length_map, lst_syms HPos.out, Nat.sub_zero] at h2
              have HB3 : Hid (Blk w3 q 80 #[.int .i64 0, .int .i64 0, .int .i64 0, .bool false, .int .i64 0, .int .i64 0]) := HB2.out.turned HI3.out.tur (fun hf => by
                rcases hf with e | e
                · exact Blk.ne_ HB2.out HH2.out.blk (by decide) e
                · exact own_blk_ne HH2.out.own HB2.out (by decide) e)
              obtain ⟨q0, q1, q2, q3, q4, q5⟩ := HB3.out.six
              have qf := fun i => HB3.out.frozen i
              have ql := HB3.out.lt
              obtain ⟨va, vc, rfl, _, _⟩ := own_shape HI3.out.hp.own
              obtain ⟨nn, hnn⟩ : ∃ nn, nn = (N ++ M3).length := ⟨_, rfl⟩
              have HNn : Hid (nn = N.length + t.length) := by unfold Hid; rw [hnn, List.length_append, hML]
              have b1 : w3.cell? ⟨r, 1, none⟩ = some (.slice va nn vc) := by rw [hnn]; exact (HI3.out.hp.blk.cell 1).trans rfl
              have hnn4 : nn ≤ 4000 := by have := HNn.out; omega
              rw [← hnn] at HI3
              have HRt : Hid ((layF L N.length (lst t)).1 = [(nn : Int) - 1]) := by
                have ht0 : 0 < t.length := by
                  rcases Nat.eq_zero_or_pos t.length with h | h
                  · have h3 := HCk.out.2.2
                    rw [List.eq_nil_of_length_eq_zero h] at h3
                    simp [Well] at h3
                  · exact h
                have h1 := lst_args HPos.out L N.length 0 1
                rw [List.drop_zero, List.drop_zero] at h1
                have h2 := topsF_len L t 0 1 HCk.out.2.2
                have h3 := topsF_head L (m := 0) (show t ≠ [] from fun e => by rw [e] at ht0; simp at ht0)
                have h4 : topsF L t 0 = [0] := by
                  match hh : topsF L t 0 with
                  | [y] => rw [hh] at h3; simp at h3; rw [h3]
                  | [] => rw [hh] at h2; simp at h2
                  | _ :: _ :: _ => rw [hh] at h2; simp at h2
                have h5 : (layF L N.length (lst t)).1.length = 1 := layF_len L N.length (lst t) 1 (by rw [lst_fst]; exact HCk.out.2.2)
                rw [h4, List.take_of_length_le (by omega)] at h1
                unfold Hid
                rw [h1, HNn.out]
                simp
              clear hML hnn
              go_wp2_with fail
              have X := set6 HB3.out (.int .i64 0) (.int .i64 0) (.int .i64 0) (.bool false) (.int .i64 0) (.int .i64 0)
              refine bodyPost_ret (results_f2 rfl _ rfl X.1) rfl (.inr ⟨.slice va nn vc, M3, (nn : Int) - 1, HGd.out, HRt.out, rfl, HI3.out.hp.apart80 HB3.out X.2, by have h1 := HI3.out.ms; rwa [List.drop_zero] at h1, ((HS2.out.mono (fun _ h => h.elim)).trans HI3.out.tur (fun i hi => .inl hi)).trans X.2 (fun i hi => .inr (by rw [hi]; exact HQ.out)), ?_, fun x hx k hk => Nat.le_trans HS2.out.size (HI3.out.anew x hx k hk)⟩)
              rcases HI3.out.vown with e | ⟨j, e, hj⟩
              · exact .inl e
              · exact .inr ⟨j, e, Nat.le_trans HS2.out.size hj⟩
            | succ m =>
              rw [show ((m + 1 : Nat) : Int) - 1 = m from by omega]
              have hm0 : (0 : Int) ≤ m := by omega
              have hm1 : (m : Int) < t.length := by omega
              have hml : m < t.length := by omega
              have HTr := Lib.hid (HT2.out.keep HI3.out.tur)
              have HLr : Hid (SymRd w3 lu L) := SymRd.of_own (World.ownsRow.turned HL2.out HI3.out.tur (fun k hk hf => by
                rcases hf with e | e
                · exact own_blk_ne HL2.out HH2.out.blk (by decide) (by rw [hk, e])
                · exact own_own_ne HL2.out HH2.out.own (by decide) k hk e))
              have HEn : Hid (arN L (t[m]'hml) ≤ (topsF L (t.drop (m + 1)) (m + 1)).length) := by
                obtain ⟨w', hw'⟩ := well_drop L t 1 m HCk.out.2.2
                rw [List.drop_eq_getElem_cons hml] at hw'
                rw [topsF_len L _ (m + 1) _ hw'.2]
                unfold Hid; omega
              go_wp2_with fail
              refine (rargs_any w3 _ L HLr.out HL.out _ t HTr.out.rd hlen2 m hml HEn.out).mono ?_
              rintro e w4 ⟨ov, rfl, hOv, hs4⟩
              obtain ⟨PL, hPL⟩ : ∃ PL, PL = (topsF L (t.drop (m + 1)) (m + 1)).take (arN L (t[m]'hml)) := ⟨_, rfl⟩
              rw [← hPL] at hOv
              have HPL := Lib.hid hPL
              have HOv := Lib.hid hOv
              obtain ⟨oA, oc, rfl, _⟩ := hOv
              have HS4 := Lib.hid hs4
              have HPl : Hid (PL.length ≤ 6) := by
                rw [hPL, List.length_take]
                have := arN_le HL.out (t[m]'hml)
                unfold Hid; omega
              have HPb : Hid (∀ p ∈ PL, p < t.length) := by
                intro p hp
                rw [hPL] at hp
                have := topsF_bd L _ (m + 1) p (List.mem_of_mem_take hp)
                rw [List.length_drop] at this
                omega
              obtain ⟨pn, hpn⟩ : ∃ pn, pn = PL.length := ⟨_, rfl⟩
              have HPn := Lib.hid hpn
              have hpn6 : pn ≤ 6 := by rw [hpn]; exact HPl.out
              rw [List.length_map, ← hpn] at HOv ⊢
              clear hPL hs4 hpn
              go_wp2_with fail
              go_loopw [12, 14] (fun av jv wr => ∃ j : Nat, j ≤ pn ∧ jv = .int .i64 j ∧ (∃ aa ac, av = .slice aa j ac) ∧ Hid (RowI w4 wr av ((PL.take j).map (fun (p : Nat) => (N.length : Int) + t.length - 1 - p)))) (fun _ jv _ => pn - (intOf jv).toNat)
              case atStart => exact ⟨0, Nat.zero_le _, rfl, ⟨_, _, rfl⟩, Turned.refl _ _, World.ownsRow_nil _ _ _ _, fun k hk => by simp [Value.ownBlock] at hk⟩
              case round =>
                obtain ⟨j, hj, rfl, ⟨aa, ac, rfl⟩, HV⟩ := hrel
                rename World => w5
                by_cases hlj : j < pn
                · obtain ⟨A2, c2, e, hA⟩ := HOv.out.same_ HV.out.same
                  injection e with e1 e3 e2
                  clear e3
                  subst e1; subst e2
                  have hlj' : j < (PL.map fun (p : Nat) => (p : Int)).length := by rw [List.length_map, ← HPn.out]; exact hlj
                  obtain ⟨bl, off, rfl, hc⟩ := hA (by omega)
                  have hd := hc j hlj'
                  have hjP : j < PL.length := by rw [← HPn.out]; exact hlj
                  rw [List.getElem_map] at hd
                  have htk : PL.take (j + 1) = PL.take j ++ [PL[j]] := List.take_succ_eq_append_getElem hjP
                  have hpb := HPb.out PL[j] (List.getElem_mem _)
                  obtain ⟨p, hp⟩ : ∃ p, p = PL[j] := ⟨_, rfl⟩
                  rw [← hp] at hd htk hpb
                  have HTk := Lib.hid htk
                  have HJl : Hid (((PL.take j).map (fun (p : Nat) => (N.length : Int) + t.length - 1 - p)).length = j) := by rw [List.length_map, List.length_take]; unfold Hid; omega
                  have HO : Hid (w5.ownsRow 0 3 1 (.slice aa j ac) j (nInts ((PL.take j).map (fun (p : Nat) => (N.length : Int) + t.length - 1 - p)))) := by have h1 := HV.out.own; rwa [HJl.out] at h1
                  have hj0 : (0 : Int) ≤ j := by omega
                  have hj1 : (j : Int) < pn := by omega
                  have hp1 : (p : Int) < t.length := by omega
                  obtain ⟨TA, hTA⟩ : ∃ TA, TA = nInts ((PL.take j).map (fun (p : Nat) => (N.length : Int) + t.length - 1 - p)) := ⟨_, rfl⟩
                  rw [← hTA] at HO
                  have HTA := Lib.hid hTA
                  obtain ⟨ad, had⟩ : ∃ ad, ad = (N.length : Int) + t.length - 1 - p := ⟨_, rfl⟩
                  have HAd := Lib.hid had
                  clear hc hA hp htk hlj' hjP hTA had
                  go_upto_region 20 with fail
                  go_wp2_with (at_builtin; go_loud (refine wpList_append_src _ rfl _ _ 26 rfl 3 i0 _ 1 8 Try.underlying26 HI.out.1 HI.out.2.1 HI.out.2.2.1 HI.out.2.2.2 rfl (by omega) (.slice aa j ac) j TA rfl (by exact World.ownsRow.alloc HO.out _) (some ⟨w5.heap.size, 0, none⟩) 1 1 (nInts [(N.length : Int) + t.length - 1 - p]) rfl (by simp [nInts]) (by exact fun _ => src_new w5 (nInts [(N.length : Int) + t.length - 1 - p]) 3 (by omega)) (nInts_one _) (by unfold maxLen; omega) (by omega) ?_))
                  intro a6 c6 w6 ho6 hg6 hat6
                  have HN : Hid (RowI w4 w6 (.slice a6 (j + 1) c6) ((PL.take (j + 1)).map (fun (p : Nat) => (N.length : Int) + t.length - 1 - p))) := by
                    rw [HTk.out, List.map_append]
                    exact HV.out.push (w1 := w5.alloc (.cells #[.int .i64 ((N.length : Int) + t.length - 1 - p)] 3)) ((Turned.refl _ _).alloc _) (by rw [HJl.out, ← HTA.out]; exact ho6) hg6 (by rw [World.size_alloc]; exact hat6)
                  clear ho6 hg6 hat6 HO
                  go_wp2_with fail
                  go_roundw
                  case rel => exact ⟨j + 1, by omega, by go_num, ⟨_, _, rfl⟩, HN.out⟩
                  case measure => simp [intOf]; omega
                · have hjj : j = pn := by omega
                  subst hjj
                  have HPf : Hid ((PL.take j) = PL) := by unfold Hid; rw [HPn.out, List.take_length]
                  have HRw : Hid (RowI w4 w5 (.slice aa j ac) (PL.map (fun (p : Nat) => (N.length : Int) + t.length - 1 - p))) := by have h1 := HV.out; rwa [HPf.out] at h1
                  have HS5 : Hid (Same w3 w5) := HS4.out.trans HV.out.same (fun _ h => h.elim)
                  have HH5 := Lib.hid (HI3.out.hp.same HS5.out)
                  obtain ⟨va, vc, rfl, _, _⟩ := own_shape HH5.out.own
                  obtain ⟨A2, c2, e, hA⟩ := HTr.out.rd.same_ HS5.out
                  injection e with e1 e3 e2
                  clear e3
                  subst e1; subst e2
                  obtain ⟨tbl, toff, rfl, hc⟩ := hA (by omega)
                  have hd := hc m hml
                  obtain ⟨x, hx⟩ : ∃ x, x = t[m]'hml := ⟨_, rfl⟩
                  rw [← hx] at hd
                  have HX := Lib.hid hx
                  have htl := World.block_lt_of_cell? _ _ hd
                  obtain ⟨nn, hnn⟩ : ∃ nn, nn = (N ++ M3).length := ⟨_, rfl⟩
                  have HNn := Lib.hid hnn
                  have hnn4 : nn ≤ 4000 := by
                    have h1 : M3.length = t.length - (m + 1) := by
                      have h2 := congrArg List.length HI3.out.ms
                      rwa [List.length_map, lst_syms HPos.out] at h2
                    rw [hnn, List.length_append, h1]
                    omega
                  have HO5 : Hid (w5.ownsRow 0 53 5 (.slice va nn vc) nn (nall (N ++ M3))) := by rw [hnn]; exact HH5.out.own
                  have k0' : w5.cell? ⟨r, 1, none⟩ = some (.slice va nn vc) := by rw [hnn]; exact (HH5.out.blk.cell 1).trans rfl
                  have f0' := HH5.out.blk.frozen 1
                  have l0' := HH5.out.blk.lt
                  have HNE : Hid ((Value.slice va nn vc).ownBlock ≠ some r) := own_blk_ne HO5.out HH5.out.blk (by decide)
                  obtain ⟨i5, hi5, hv0, hv1, hv2⟩ := info_parts info53
                  have HI5 : Hid (Try.prog.info? 53 = some i5 ∧ i5.zero = some (.agg #[.int .i64 0, .slice none 0 0, .int .i64 0, .bool false, .int .i64 0]) ∧ i5.size = 5 ∧ i5.bytes = 56) := ⟨hi5, hv0, hv1, hv2⟩
                  clear hc hA hx hnn hi5 hv0 hv1 hv2 HV
                  go_wp2_with fail
                  go_region_law ((refine step_append_lies _ (by rfl) _ _ _ (by rfl) 0 53 i5 _ 5 56 Try.underlying23 HI5.out.1 HI5.out.2.1 HI5.out.2.2.1 HI5.out.2.2.2 rfl (by omega) (.slice va nn vc) nn (nall (N ++ M3)) (by rfl) ((HO5.out.alloc _).drew) ⟨w5.heap.size, 0, none⟩ 1 1 [.int .i64 x, .slice aa j ac, .int .i64 0, .bool false, .int .i64 0] (by rfl) (by rfl) (World.news_of_block (cs := #[.int .i64 x, .slice aa j ac, .int .i64 0, .bool false, .int .i64 0]) (t := 53) (fr := (0, 0)) (heap_alloc_new w5 _)) (by simp [Value.oneCell']) (by omega) (by unfold maxLen; omega) (by omega) (by simp) (w5.heap.size + 1) (by simp) ?_; intro g cap w6 hown6 hgrow6 hat6 hlt6; have k0 : w6.cell? ⟨r, 1, none⟩ = some (.slice va nn vc) := ((hgrow6.cell_far ⟨r, 1, none⟩ (by simp; omega) HNE.out.symm).trans (World.cell?_alloc_lt w5 _ ⟨r, 1, none⟩ l0')).trans k0'; have kf : w6.frozen? ⟨r, 1, none⟩ = false := ((hgrow6.frozen_far ⟨r, 1, none⟩ (by simp; omega) HNE.out.symm).trans (World.frozen?_alloc_past _ r 1 l0')).trans f0'))
                  all_goals
                    have HN : Hid (RLdI w2 (w6.setCell ⟨r, 1, none⟩ (.slice (some ⟨g, 0, none⟩) (nn + 1) cap)) r room (.slice ua N.length uc) N L t m (.slice (some ⟨g, 0, none⟩) (nn + 1) cap) (M3 ++ [((⟨x, PL.map (fun (p : Nat) => (N.length : Int) + t.length - 1 - p), 0, false, 0⟩ : Nd), .slice aa j ac)])) := by
                      have hnn := HNn.out
                      subst hnn
                      have hgr : (w5.alloc (.cells #[.int .i64 x, .slice aa j ac, .int .i64 0, .bool false, .int .i64 0] 53)).grownBy w6 (Value.slice va (N ++ M3).length vc).ownBlock := ⟨hgrow6.os, hgrow6.tape, hgrow6.output, hgrow6.size, hgrow6.block⟩
                      have AA := rmake_after (x := ⟨x, PL.map (fun (p : Nat) => (N.length : Int) + t.length - 1 - p), 0, false, 0⟩) (av := .slice aa j ac) (w3 := w5) (o := .cells #[.int .i64 x, .slice aa j ac, .int .i64 0, .bool false, .int .i64 0] 53) HH5.out (Turned.refl _ _) HRw.out.own hown6 hgr hat6
                      refine ⟨by rw [← List.append_assoc]; exact AA.1, ?_, (HI3.out.tur.trans HS5.out (fun _ h => h.elim)).trans AA.2.1 (hfoot_old HI3.out.vown), hfoot_moved HI3.out.vown (Nat.le_trans HI3.out.tur.size HS5.out.size) AA.2.2, fun y hy k hk => ?_⟩
                      rotate_left
                      · rcases List.mem_append.1 hy with h1 | h1
                        · exact HI3.out.anew y h1 k hk
                        · obtain rfl : y = _ := by simpa using h1
                          exact Nat.le_trans (Nat.le_trans HI3.out.tur.size HS4.out.size) (HRw.out.new k hk)
                      have hml2 : m < (lst t).length := by simpa using hml
                      have hx2 : (lst t)[m].1 = t[m]'hml := by simp [lst]
                      have hpos := HPos.out (t[m]'hml) (List.getElem_mem _)
                      rw [List.map_append, HI3.out.ms, lay_node L N.length hml2 (by rw [hx2]; omega), hx2, lst_args HPos.out, ← HPL.out, ← HX.out]
                      rfl
                    clear hown6 hgrow6 hat6 hlt6 k0 kf
                    go_wp2_with fail
                    go_roundw
                    case rel => exact ⟨m, by omega, rfl, _, _, HN.out⟩
                    case measure => simp [intOf]
end Go.Proofs.Yteohhiefchoamaa
