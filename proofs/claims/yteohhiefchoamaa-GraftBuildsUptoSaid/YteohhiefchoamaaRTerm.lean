/-
  The walk of the document's Term, on the nodes of a term that was laid.
-/
import Derived.Test.YteohhiefchoamaaRefHeap
import Derived.Test.YteohhiefchoamaaRefTerm
import Derived.Laws.OwnMore
namespace Go.Proofs.Yteohhiefchoamaa
open Go.RowKit

theorem layF_prefix (L : List Sym) (base : Nat) : ∀ (P : List (Int × Int)) (k : Nat), ∃ M, (layF L base P).2 = (layF L base (P.drop k)).2 ++ M
  | P, 0 => ⟨[], by simp⟩
  | [], k + 1 => ⟨[], by simp⟩
  | (n, h) :: r, k + 1 => by
    obtain ⟨M, hM⟩ := layF_prefix L base r k
    by_cases hn : n < 0
    · exact ⟨M, by rw [layF_cons_neg L base hn]; simpa using hM⟩
    · refine ⟨M ++ [⟨n, (layF L base r).1.take (arN L n), 0, false, 0⟩], ?_⟩
      rw [layF_cons_pos L base hn]
      simp only [List.drop_succ_cons]
      rw [hM, List.append_assoc]
/-- The stack behind the first m symbols of a term. -/
def stF (L : List Sym) (t : List Int) (m : Nat) : List Int := (layF L 0 ((t.map fun n => (n, (0 : Int))).drop m)).1
def ndsF (L : List Sym) (t : List Int) : List Nd := (layF L 0 (t.map fun n => (n, (0 : Int)))).2
theorem stF_end (L : List Sym) (t : List Int) (m : Nat) (h : t.length ≤ m) : stF L t m = [] := by
  unfold stF; rw [List.drop_eq_nil_of_le (by simpa using h)]; rfl
theorem stF_step (L : List Sym) (t : List Int) (hp : ∀ n ∈ t, 0 ≤ n) (m : Nat) (h : m < t.length) :
    ∃ q : Nat, stF L t m = (q : Int) :: (stF L t (m + 1)).drop (arN L t[m]) ∧ q < (ndsF L t).length ∧ (ndsF L t)[q]? = some ⟨t[m], (stF L t (m + 1)).take (arN L t[m]), 0, false, 0⟩ := by
  have hd : (t.map fun n => (n, (0 : Int))).drop m = (t[m], 0) :: (t.map fun n => (n, (0 : Int))).drop (m + 1) := by
    rw [List.drop_eq_getElem_cons (by simpa using h)]; simp
  have hn : ¬ t[m] < 0 := by have := hp t[m] (List.getElem_mem _); omega
  obtain ⟨M, hM⟩ := layF_prefix L 0 (t.map fun n => (n, (0 : Int))) m
  rw [hd, layF_cons_pos L 0 hn] at hM
  simp only at hM
  refine ⟨(layF L 0 ((t.map fun n => (n, (0 : Int))).drop (m + 1))).2.length, ?_, ?_, ?_⟩
  · unfold stF
    rw [hd, layF_cons_pos L 0 hn]
    simp
  · unfold ndsF; rw [hM]; simp
  · unfold ndsF
    rw [hM, List.append_assoc, List.getElem?_append_right (Nat.le_refl _), Nat.sub_self]
    simp [stF]
theorem stF_le (L : List Sym) (t : List Int) (m : Nat) : (stF L t m).length ≤ t.length := by
  have := layF_le L 0 ((t.map fun n => (n, (0 : Int))).drop m)
  unfold stF
  simp at this ⊢
  omega

/-- Between two rounds: m symbols are read; these stand on the stack. -/
structure TermI (w wr : World) (ov tv : Value) (t : List Int) (m : Nat) (sl : List Int) : Prop where
  same : Same w wr
  out : wr.ownsRow 0 3 1 ov m (nInts (t.take m))
  todo : wr.ownsRow 0 3 1 tv sl.length (nInts sl.reverse)
  onew : ∀ k, ov.ownBlock = some k → w.heap.size ≤ k
  tnew : ∀ k, tv.ownBlock = some k → w.heap.size ≤ k
  apart : ∀ k, ov.ownBlock = some k → tv.ownBlock ≠ some k
theorem own_lt {w : World} {e : TypeId} {size n : Nat} {v : Value} {xs : List Value} (h : w.ownsRow 0 e size v n xs) {k : Nat} (hk : v.ownBlock = some k) : k < w.heap.size := (World.ownsRow.lt h k hk).2
theorem TermI.keep {w wr w1 : World} {ov tv : Value} {t : List Int} {m : Nat} {sl : List Int} (h : TermI w wr ov tv t m sl) (hs : Same wr w1) : TermI w w1 ov tv t m sl :=
  ⟨h.same.trans hs (fun _ h => h.elim), World.ownsRow.turned h.out hs (fun _ _ h => h), World.ownsRow.turned h.todo hs (fun _ _ h => h), h.onew, h.tnew, h.apart⟩
theorem TermI.push {w wr w1 w2 : World} {ov tv tv2 : Value} {t : List Int} {m : Nat} {sl : List Int} {x : Int} (h : TermI w wr ov tv t m sl) (hs : Same wr w1)
    (ho : w2.ownsRow 0 3 1 tv2 (sl.length + 1) (nInts sl.reverse ++ nInts [x])) (hg : w1.grownBy w2 tv.ownBlock) (hat : tv2.ownBlock = tv.ownBlock ∨ tv2.ownBlock = some w1.heap.size) :
    TermI w w2 ov tv2 t m (x :: sl) ∧ ∀ nb cs, Blk w1 nb 53 cs → Blk w2 nb 53 cs := by
  have h1 := h.keep hs
  have ht : Turned (fun k => tv.ownBlock = some k) w1 w2 := (Turned.refl _ _).grown hg (fun k hk => .inl hk)
  refine ⟨⟨h1.same.trans ht (fun i hi => .inr (h1.tnew i hi)), World.ownsRow.turned h1.out ht (fun k hk hu => h1.apart k hk hu), ?_, h1.onew, fun k hk => ?_, fun k hk hk2 => ?_⟩, fun nb cs hB => hB.turned ht (fun hu => own_blk_ne h1.todo hB (by decide) hu)⟩
  · rw [List.reverse_cons, show nInts (sl.reverse ++ [x]) = nInts sl.reverse ++ nInts [x] from by simp [nInts]]; exact ho
  · rcases hat with e | e
    · exact h1.tnew k (e.symm.trans hk)
    · have e2 := e.symm.trans hk
      obtain rfl : w1.heap.size = k := by simpa using e2
      exact h1.same.size
  · rcases hat with e | e
    · exact h1.apart k hk (e.symm.trans hk2)
    · have e2 := e.symm.trans hk2
      obtain rfl : w1.heap.size = k := by simpa using e2
      exact absurd (own_lt h1.out hk) (Nat.lt_irrefl _)
theorem TermI.told {w wr w1 w2 : World} {ov tv ov2 : Value} {t : List Int} {m : Nat} {sl : List Int} (h : TermI w wr ov tv t m sl) (hs : Same wr w1) (hm : m < t.length)
    (ho : w2.ownsRow 0 3 1 ov2 (m + 1) (nInts (t.take m) ++ nInts [t[m]])) (hg : w1.grownBy w2 ov.ownBlock) (hat : ov2.ownBlock = ov.ownBlock ∨ ov2.ownBlock = some w1.heap.size) :
    TermI w w2 ov2 tv t (m + 1) sl ∧ ∀ nb cs, Blk w1 nb 53 cs → Blk w2 nb 53 cs := by
  have h1 := h.keep hs
  have ht : Turned (fun k => ov.ownBlock = some k) w1 w2 := (Turned.refl _ _).grown hg (fun k hk => .inl hk)
  refine ⟨⟨h1.same.trans ht (fun i hi => .inr (h1.onew i hi)), ?_, World.ownsRow.turned h1.todo ht (fun k hk hu => h1.apart k hu hk), fun k hk => ?_, h1.tnew, fun k hk hk2 => ?_⟩, fun nb cs hB => hB.turned ht (fun hu => own_blk_ne h1.out hB (by decide) hu)⟩
  · rw [List.take_succ_eq_append_getElem hm, show nInts (t.take m ++ [t[m]]) = nInts (t.take m) ++ nInts [t[m]] from by unfold nInts; rw [List.map_append]]; exact ho
  · rcases hat with e | e
    · exact h1.onew k (e.symm.trans hk)
    · have e2 := e.symm.trans hk
      obtain rfl : w1.heap.size = k := by simpa using e2
      exact h1.same.size
  · rcases hat with e | e
    · exact h1.apart k (e.symm.trans hk) hk2
    · have e2 := e.symm.trans hk
      obtain rfl : w1.heap.size = k := by simpa using e2
      exact absurd (own_lt h1.todo hk2) (Nat.lt_irrefl _)

theorem NdRd.get {w wr : World} {u : Value} {K : List Nd} (h : NdRd w u K) (hs : Same w wr) (q : Nat) (nd : Nd) (hq : K[q]? = some nd) : ∃ bl off c vA vc, u = .slice (some ⟨bl, off, none⟩) K.length c ∧
    wr.cell? ⟨bl, off + q * 5, none⟩ = some (.int .i64 nd.sym) ∧ wr.cell? ⟨bl, off + q * 5 + 1, none⟩ = some (.slice vA nd.args.length vc) ∧ wr.cell? ⟨bl, off + q * 5 + 2, none⟩ = some (.int .i64 nd.mark) ∧ wr.cell? ⟨bl, off + q * 5 + 3, none⟩ = some (.bool nd.points) ∧ wr.cell? ⟨bl, off + q * 5 + 4, none⟩ = some (.int .i64 nd.to) ∧ Rd w (.slice vA nd.args.length vc) nd.args ∧ bl < w.heap.size := by
  obtain ⟨A, c, rfl, hA⟩ := h
  obtain ⟨hql, rfl⟩ := List.getElem?_eq_some_iff.1 hq
  obtain ⟨bl, off, rfl, hc⟩ := hA (by omega)
  obtain ⟨av, e0, e1, e2, e3, e4, hR⟩ := hc q hql
  have hR' := hR
  obtain ⟨vA, vc, rfl, _⟩ := hR
  have l0 : bl < w.heap.size := World.block_lt_of_cell? _ _ e0
  exact ⟨bl, off, c, vA, vc, rfl, (hs.cell (p := ⟨bl, off + q * 5, none⟩) l0 (fun h => h)).trans e0, (hs.cell (p := ⟨bl, off + q * 5 + 1, none⟩) l0 (fun h => h)).trans e1, (hs.cell (p := ⟨bl, off + q * 5 + 2, none⟩) l0 (fun h => h)).trans e2, (hs.cell (p := ⟨bl, off + q * 5 + 3, none⟩) l0 (fun h => h)).trans e3, (hs.cell (p := ⟨bl, off + q * 5 + 4, none⟩) l0 (fun h => h)).trans e4, hR', l0⟩
theorem own_rd {w : World} {v : Value} {p : List Int} (h : w.ownsRow 0 3 1 v p.length (nInts p)) : Rd w v p := by
  obtain ⟨a, c, rfl, _, _⟩ := own_shape h
  refine ⟨a, c, rfl, fun h0 => ?_⟩
  obtain ⟨g, cap, hv, _, _⟩ := h.form h0
  obtain ⟨rfl, rfl⟩ : a = some ⟨g, 0, none⟩ ∧ c = cap := by simpa using hv
  exact ⟨g, 0, rfl, fun k hk => by rw [Nat.zero_add]; exact row_cell h (by simp [nInts, hk])⟩
set_option maxRecDepth 100000 in
set_option maxHeartbeats 8000000 in
theorem rterm_any (w : World) (r : Nat) (room : Int) (u : Value) (L : List Sym) (t : List Int) (h : RHp w r room u (ndsF L t)) (hr : Ranked (ndsF L t)) (hp : ∀ n ∈ t, 0 ≤ n) (a : Nat) (ha : stF L t 0 = [(a : Int)]) (hl : t.length ≤ 2000) :
    Calls Try.prog 30 #[.pointer (some ⟨r, 0, none⟩), .int .i64 a, .int .i64 2000] w fun e w' => ∃ v, e = .returned (.tuple #[v, .bool true]) ∧ Rd w' v t ∧ Same w w' := by
  have H := Lib.hid h; have HR := Lib.hid hr; have HP := Lib.hid hp; have HA := Lib.hid ha
  clear h hr hp ha
  obtain ⟨i0, hi0, hz0, hz1, hz2⟩ := info_parts info3
  have HI : Hid (Try.prog.info? 3 = some i0 ∧ i0.zero = some (.int .i64 0) ∧ i0.size = 1 ∧ i0.bytes = 8) := ⟨hi0, hz0, hz1, hz2⟩
  clear hi0 hz0 hz1 hz2
  have HT0 : Hid (TermI w (w.alloc (.cells #[.int .i64 a] 3)) (.slice none 0 0) (.slice (some ⟨w.heap.size, 0, none⟩) 1 1) t 0 (stF L t 0)) := by
    refine ⟨(Turned.refl _ _).alloc _, World.ownsRow_nil _ _ _ _, ?_, fun k hk => by simp [Value.ownBlock] at hk, fun k hk => ?_, fun k hk => by simp [Value.ownBlock] at hk⟩
    · rw [HA.out]
      exact World.ownsRow_lit (base := 0) (e := 3) (size := 1) w #[.int .i64 a] 1 (Nat.zero_le _) (by unfold maxLen; omega) rfl
    · have : w.heap.size = k := by simpa [Value.ownBlock] using hk
      omega
  go_enter Try.func30, Try.ntmps30
  go_wp2_with fail
  go_loopw [8, 9] (fun ov tv wr => ∃ m s : Nat, m ≤ t.length ∧ (∃ oa oc, ov = .slice oa m oc) ∧ (∃ ta tc, tv = .slice ta s tc) ∧ Hid (s = (stF L t m).length ∧ TermI w wr ov tv t m (stF L t m))) (fun ov _ _ => t.length - (match ov with | .slice _ n _ => n | _ => 0))
  case atStart => exact ⟨0, 1, Nat.zero_le _, ⟨none, 0, rfl⟩, ⟨_, _, rfl⟩, by rw [HA.out]; rfl, HT0.out⟩
  case round =>
    obtain ⟨m, s, hm, ⟨oa, oc, rfl⟩, ⟨ta, tc, rfl⟩, HV⟩ := hrel
    rename World => wo
    by_cases hlt : m < t.length
    · obtain ⟨q, hq1, hq2, hq3⟩ := stF_step L t HP.out m hlt
      obtain ⟨N1, hN1⟩ : ∃ N1, N1 = stF L t (m + 1) := ⟨_, rfl⟩
      obtain ⟨x, hx⟩ : ∃ x, x = t[m] := ⟨_, rfl⟩
      obtain ⟨ar, har⟩ : ∃ ar, ar = arN L x := ⟨_, rfl⟩
      have hN1l : N1.length ≤ 2000 := by rw [hN1]; have := stF_le L t (m + 1); omega
      rw [← hN1, ← hx, ← har] at hq1 hq3
      have hTI := HV.out.2
      have hs0 := HV.out.1
      rw [hq1] at hTI hs0
      obtain ⟨s', hs'⟩ : ∃ s', s' = (N1.drop ar).length := ⟨_, rfl⟩
      rw [List.length_cons, ← hs'] at hs0
      subst hs0
      have hTo := hTI.todo
      rw [List.length_cons, ← hs', List.reverse_cons, show nInts ((N1.drop ar).reverse ++ [(q : Int)]) = nInts (N1.drop ar).reverse ++ nInts [(q : Int)] from by simp [nInts]] at hTo
      obtain ⟨tg, cap, hv, _, _⟩ := hTo.form (by omega)
      obtain ⟨rfl, rfl⟩ : ta = some ⟨tg, 0, none⟩ ∧ tc = cap := by simpa using hv
      have hcap : s' + 1 ≤ tc := by
        obtain ⟨ax, cx, ex, h1, _⟩ := own_shape hTo
        have : tc = cx := by injection ex
        omega
      have hln : (nInts (N1.drop ar).reverse).length = s' := by simp only [nInts, List.length_map, List.length_reverse]; omega
      have top := row_cell hTo (j := s') (u := .int .i64 q) (by rw [List.getElem?_append_right (by omega), hln, Nat.sub_self]; rfl)
      have hShr := own_shrink hTo (by rw [hln]; omega)
      have HTI : Hid (TermI w wo (.slice oa m oc) (.slice (some ⟨tg, 0, none⟩) s' tc) t m (N1.drop ar)) :=
        ⟨hTI.same, hTI.out, by rw [← hs']; exact hShr, hTI.onew, fun k hk => hTI.tnew k (by simpa [Value.ownBlock] using hk), fun k hk hk2 => hTI.apart k hk (by simpa [Value.ownBlock] using hk2)⟩
      have HN1 := Lib.hid hN1; have HX := Lib.hid hx; have HQ := Lib.hid hq3; have HS' := Lib.hid hs'
      have hH := H.out.same hTI.same
      obtain ⟨bl, off, c, vA, vc, hu, k0, k1, k2, k3, k4, hRd, _⟩ := H.out.rd.get hTI.same q _ hq3
      have hKq : (ndsF L t)[q] = ⟨x, N1.take ar, 0, false, 0⟩ := (List.getElem?_eq_some_iff.1 hq3).2
      simp only at k0 k1 k2 k3 k4 hRd
      have HRd := Lib.hid hRd
      obtain ⟨n1, hn1⟩ : ∃ n1, n1 = (N1.take ar).length := ⟨_, rfl⟩
      have HN1l := Lib.hid hn1
      have hn1l : n1 ≤ 2000 := by rw [hn1]; simp; omega
      rw [← hn1] at k1
      have b1 : wo.cell? ⟨r, 1, none⟩ = some (.slice (some ⟨bl, off, none⟩) (ndsF L t).length c) := by rw [← hu]; exact (hH.blk.cell 1).trans rfl
      obtain ⟨K, hK⟩ : ∃ K, K = (ndsF L t).length := ⟨_, rfl⟩
      have hqK : (q : Int) < K := by omega
      have hq0 : (0 : Int) ≤ q := by omega
      rw [← hK] at b1
      have hres : resF (ndsF L t) q = q := resF_eq (.here hq2 (by rw [hKq]))
      have HRs : Hid (Calls Try.prog 57 #[.pointer (some ⟨r, 0, none⟩), .int .i64 q] wo fun e w' => e = .returned (.tuple #[.int .i64 q, .int .i64 0]) ∧ wo = w') := by
        have h1 := rresolve_some wo r room u _ hH HR.out q hq2
        rwa [hres] at h1
      have hm2 : ¬ (m : Int) ≥ 2000 := by omega
      have hs9 : (0 : Int) ≤ s' := by omega
      have hs8 : (s' : Int) < (s' : Int) + 1 := by omega
      have hs7 : s' ≤ 2000 := by rw [hs']; simp; omega
      clear hq1 hq2 hq3 hN1 hx har hTI hTo hv hln hShr hs' hH hRd hn1 hKq hres HV hK hu
      go_wp2_with fail
      refine HRs.out.mono ?_
      rintro e w1 ⟨rfl, rfl⟩
      go_wp2_with (at_builtin; go_loud (refine wpList_append_src _ rfl _ _ 27 rfl 3 i0 _ 1 8 Try.underlying27 HI.out.1 HI.out.2.1 HI.out.2.2.1 HI.out.2.2.2 rfl (by omega) (.slice oa m oc) m (nInts (t.take m)) rfl (by exact World.ownsRow.alloc (World.ownsRow.alloc HTI.out.out _) _) (some ⟨wo.heap.size + 1, 0, none⟩) 1 1 (nInts [x]) rfl (by simp [nInts]) (by have h1 := src_new (wo.alloc (.cells #[.int .i64 x, .slice vA n1 vc, .int .i64 0, .bool false, .int .i64 0] 53)) (nInts [x]) 3; rw [World.size_alloc] at h1; exact fun _ => h1 (by omega)) (nInts_one _) (by unfold maxLen; omega) (by omega) ?_))
      intro a2 c2 w2 ho2 hg2 hat2
      have hW1 : Same wo (wo.alloc (.cells #[.int .i64 x, .slice vA n1 vc, .int .i64 0, .bool false, .int .i64 0] 53)) := (Turned.refl _ _).alloc _
      have hB1 := Blk.new wo 53 #[.int .i64 x, .slice vA n1 vc, .int .i64 0, .bool false, .int .i64 0]
      have hT2 := HTI.out.told (w1 := (wo.alloc (.cells #[.int .i64 x, .slice vA n1 vc, .int .i64 0, .bool false, .int .i64 0] 53)).alloc (.cells #[.int .i64 x] 3)) (hW1.alloc _) hlt (by rw [← HX.out]; exact ho2) hg2 (by rw [World.size_alloc, World.size_alloc]; exact hat2)
      have HT2 := Lib.hid hT2.1
      have HB2 := Lib.hid (hT2.2 _ _ (hB1.alloc _))
      clear ho2 hg2 hat2 hT2 hB1 hW1
      clear k0 k1 k2 k3 k4 b1 top
      have c1 := (HB2.out.cell 1).trans rfl
      have cl := HB2.out.lt
      go_wp2_with fail
      have HLn : Hid (n1 = (N1.take ar).length ∧ s' = (N1.drop ar).length) := ⟨HN1l.out, HS'.out⟩
      clear c1 cl
      obtain ⟨nb, hnb⟩ : ∃ nb, nb = wo.heap.size := ⟨_, rfl⟩
      rw [← hnb] at HB2 ⊢
      clear hnb
      go_loopw [9, 13] (fun tv kv wi => ∃ j s2 : Nat, j ≤ n1 ∧ s2 ≤ 4000 ∧ kv = .int .i64 ((j : Int) - 1) ∧ (∃ ta2 tc2, tv = .slice ta2 s2 tc2) ∧ Hid (s2 + j = s' + n1 ∧ TermI w wi (.slice a2 (m + 1) c2) tv t (m + 1) ((N1.take ar).drop j ++ N1.drop ar) ∧ Blk wi nb 53 #[.int .i64 x, .slice vA n1 vc, .int .i64 0, .bool false, .int .i64 0])) (fun _ kv _ => (intOf kv + 1).toNat)
      case atStart =>
        refine ⟨n1, s', Nat.le_refl _, by omega, rfl, ⟨_, _, rfl⟩, rfl, ?_, HB2.out⟩
        rw [HN1l.out, List.drop_length, List.nil_append]; exact HT2.out
      case round =>
        obtain ⟨j, s2, hj, hs2, rfl, ⟨ta2, tc2, rfl⟩, HI2⟩ := hrel
        rename World => wi
        cases j with
        | zero =>
          have e1 : ((0 : Nat) : Int) - 1 = -1 := by omega
          rw [e1]
          have HE : Hid (s2 = (stF L t (m + 1)).length ∧ TermI w wi (.slice a2 (m + 1) c2) (.slice ta2 s2 tc2) t (m + 1) (stF L t (m + 1))) := by
            have h1 := HI2.out.2.1
            rw [List.drop_zero, List.take_append_drop, HN1.out] at h1
            refine ⟨?_, h1⟩
            have h2 := HI2.out.1
            rw [HLn.out.1, HLn.out.2] at h2
            rw [← HN1.out]
            have h3 := congrArg List.length (List.take_append_drop ar N1)
            rw [List.length_append] at h3
            omega
          clear e1
          go_wp2_with fail
          go_roundw
          case rel => exact ⟨m + 1, s2, by omega, ⟨_, _, rfl⟩, ⟨_, _, rfl⟩, HE.out⟩
          case measure => simp; omega
        | succ j =>
          have e1 : ((j + 1 : Nat) : Int) - 1 = j := by omega
          rw [e1]
          have hj0 : (0 : Int) ≤ j := by omega
          have hj1 : (j : Int) < n1 := by omega
          have hjl : j < (N1.take ar).length := by rw [← HLn.out.1]; omega
          obtain ⟨A3, c3, ea, hA3⟩ := HRd.out.same_ HI2.out.2.1.same
          injection ea with e2 _ e3
          subst e2; subst e3
          obtain ⟨bl2, off2, rfl, hc3⟩ := hA3 (by omega)
          have hd := hc3 j hjl
          obtain ⟨y, hy⟩ : ∃ y, y = (N1.take ar)[j] := ⟨_, rfl⟩
          have hdr : (N1.take ar).drop j = y :: (N1.take ar).drop (j + 1) := by rw [hy]; exact List.drop_eq_getElem_cons hjl
          rw [← hy] at hd
          have c1 := (HI2.out.2.2.cell 1).trans rfl
          have cl := HI2.out.2.2.lt
          have HDr := Lib.hid hdr
          have hs2' : s2 = ((N1.take ar).drop (j + 1) ++ N1.drop ar).length := by
            have h2 := HI2.out.1
            rw [HLn.out.1, HLn.out.2] at h2
            rw [List.length_append, List.length_drop]
            omega
          obtain ⟨Z, hZ⟩ : ∃ Z, Z = (N1.take ar).drop (j + 1) ++ N1.drop ar := ⟨_, rfl⟩
          rw [← hZ] at hs2'
          have HTI2 : Hid (TermI w wi (.slice a2 (m + 1) c2) (.slice ta2 s2 tc2) t (m + 1) Z) := by rw [hZ]; exact HI2.out.2.1
          have HTd : Hid (wi.ownsRow 0 3 1 (.slice ta2 s2 tc2) s2 (nInts Z.reverse)) := by
            have h1 := HTI2.out.todo
            rw [← hs2'] at h1
            exact h1
          have HS2 := Lib.hid hs2'
          have HZ := Lib.hid hZ
          clear hA3 hc3 hjl hy hdr e1 hs2' hZ
          go_wp2_with (at_builtin; go_loud (refine wpList_append_src _ rfl _ _ 26 rfl 3 i0 _ 1 8 Try.underlying26 HI.out.1 HI.out.2.1 HI.out.2.2.1 HI.out.2.2.2 rfl (by omega) (.slice ta2 s2 tc2) s2 (nInts Z.reverse) rfl (by exact World.ownsRow.alloc HTd.out _) (some ⟨wi.heap.size, 0, none⟩) 1 1 (nInts [y]) rfl (by simp [nInts]) (by exact fun _ => src_new wi (nInts [y]) 3 (by omega)) (nInts_one _) (by unfold maxLen; omega) (by omega) ?_))
          intro a3 c3 w3 ho3 hg3 hat3
          have hP := HTI2.out.push (w1 := wi.alloc (.cells #[.int .i64 y] 3)) (x := y) ((Turned.refl _ _).alloc _) (by rw [← HS2.out]; exact ho3) hg3 (by rw [World.size_alloc]; exact hat3)
          have HN : Hid (s2 + 1 + j = s' + n1 ∧ TermI w w3 (.slice a2 (m + 1) c2) (.slice a3 (s2 + 1) c3) t (m + 1) ((N1.take ar).drop j ++ N1.drop ar) ∧ Blk w3 nb 53 #[.int .i64 x, .slice (some ⟨bl2, off2, none⟩) n1 vc, .int .i64 0, .bool false, .int .i64 0]) := by
            refine ⟨by have := HI2.out.1; omega, ?_, hP.2 _ _ (HI2.out.2.2.alloc _)⟩
            rw [HDr.out, List.cons_append, ← HZ.out]; exact hP.1
          have hb4 : s2 + 1 ≤ 4000 := by have := HI2.out.1; omega
          clear ho3 hg3 hat3 hP HTd
          go_wp2_with fail
          go_roundw
          case rel => exact ⟨j, s2 + 1, by omega, hb4, by go_num, ⟨_, _, rfl⟩, HN.out⟩
          case measure => simp [intOf]
    · have hmm : m = t.length := by omega
      subst hmm
      have h1 := HV.out.2
      have h2 := HV.out.1
      rw [stF_end L t t.length (Nat.le_refl _)] at h1 h2
      subst h2
      have HRd : Hid (Rd wo (.slice oa t.length oc) t) := by
        have h3 := h1.out
        rw [List.take_length] at h3
        exact own_rd h3
      have HSm := Lib.hid h1.same
      clear h1 HV
      go_wp2_with fail
      go_ret2
      exact ⟨_, rfl, HRd.out, HSm.out⟩
end Go.Proofs.Yteohhiefchoamaa
