/-
  The walk of Build.
-/
import Derived.Test.YteohhiefchoamaaBuildLaw
import Derived.Deep.DeepCutAuto
namespace Go.Proofs.Yteohhiefchoamaa
open Go.RowKit

abbrev cv (a b c r : Value) : Value := .agg #[a, b, c, r]
theorem build_nil1 (w : World) (p : Option Addr) (a b c r : Value) (rule node : Int) : Calls Try.prog 13 #[.pointer none, cv a b c r, .pointer p, .int .i64 rule, .int .i64 node] w fun e w' => ∃ ev, e = .returned (.tuple #[.int .i64 0, ev]) ∧ FaultV w w' ev 1 0 0 ∧ Same w w' := by
  go_enter Try.func13, Try.ntmps13
  go_wp2_with fail
  go_ret2
  refine ⟨_, rfl, ⟨w.heap.size + 1, rfl, ?_, by omega⟩, ((Turned.refl _ _).alloc _).alloc _⟩
  have := Blk.new (w.alloc (.cells #[a, b, c, r] 39)) 106 #[.int .i64 1, .int .i64 0, .nilIface]
  simpa [whyV] using this
theorem build_nil2 (w : World) (ad : Addr) (a b c r : Value) (rule node : Int) : Calls Try.prog 13 #[.pointer (some ad), cv a b c r, .pointer none, .int .i64 rule, .int .i64 node] w fun e w' => ∃ ev, e = .returned (.tuple #[.int .i64 0, ev]) ∧ FaultV w w' ev 1 0 0 ∧ Same w w' := by
  go_enter Try.func13, Try.ntmps13
  go_wp2_with fail
  go_ret2
  refine ⟨_, rfl, ⟨w.heap.size + 1, rfl, ?_, by omega⟩, ((Turned.refl _ _).alloc _).alloc _⟩
  have := Blk.new (w.alloc (.cells #[a, b, c, r] 39)) 106 #[.int .i64 1, .int .i64 0, .nilIface]
  simpa [whyV] using this

theorem zeros_blk {w : World} {n g : Nat} {t : TypeId} (h : Blk w g t (madeCells #[.int .i64 0] n)) : Blk w g t (nInts (List.replicate n 0)).toArray := by
  have e : madeCells #[Value.int .i64 0] n = (nInts (List.replicate n 0)).toArray := by
    apply Array.ext'
    rw [toList_madeCells_one]
    simp [nInts]
  rwa [e] at h

/-- Between two rounds: the first j parts are looked through. -/
structure BuildI (w wr : World) (g1 g2 gs b : Nat) (L : List Sym) (N : List Nd) (a : Int) (Q : List PartD) (j : Nat) : Prop where
  same : Same w wr
  l : Blk wr g1 3 (nInts (mkL (·.sym) j Q)).toArray
  h : Blk wr g2 3 (nInts (mkL (handF N a) j Q)).toArray
  s : Blk wr gs 56 #[.pointer (some ⟨b, 0, none⟩)]
  ok : ∀ q ∈ Q.take j, partBad L N a q = none
/-- In the loop over a part's path: m steps are gone. -/
structure PathI (w wr : World) (g1 g2 gs b : Nat) (N : List Nd) (a : Int) (Q : List PartD) (j : Nat) (p : List Int) (m : Nat) : Prop where
  same : Same w wr
  l : Blk wr g1 3 (nInts (mkL (·.sym) (j + 1) Q)).toArray
  h : Blk wr g2 3 (nInts ((mkL (handF N a) j Q).set j (leadF N a (p.take m)))).toArray
  s : Blk wr gs 56 #[.pointer (some ⟨b, 0, none⟩)]
theorem PathI.step {w wr w1 : World} {g1 g2 gs b : Nat} {N : List Nd} {a : Int} {Q : List PartD} {j m : Nat} {p : List Int} (hi : PathI w wr g1 g2 gs b N a Q j p m) (hs : Same wr w1) (hg2 : w.heap.size ≤ g2) (hne : g1 ≠ g2) (hgs : gs ≠ g2) (hm : m < p.length) :
    PathI w (w1.setCell ⟨g2, j, none⟩ (.int .i64 (argF N (leadF N a (p.take m)) p[m]))) g1 g2 gs b N a Q j p (m + 1) := by
  have ht : Turned (fun k => k = g2) w1 (w1.setCell ⟨g2, j, none⟩ (.int .i64 (argF N (leadF N a (p.take m)) p[m]))) := (Turned.refl (fun k => k = g2) w1).setCell (p := ⟨g2, j, none⟩) (.inl rfl) _
  refine ⟨(hi.same.trans hs (fun _ h => h.elim)).trans ht (fun i hi => .inr (by omega)), (hi.l.turned hs (fun h => h)).turned ht hne, ?_, (hi.s.turned hs (fun h => h)).turned ht hgs⟩
  have := (hi.h.turned hs (fun h => h)).set_ j (.int .i64 (argF N (leadF N a (p.take m)) p[m]))
  rw [nInts_set, List.set_set] at this
  rw [List.take_succ_eq_append_getElem hm, leadF_snoc]
  exact this
theorem blk_int {w : World} {g : Nat} {l : List Int} (h : Blk w g 3 (nInts l).toArray) {j : Nat} (hj : j < l.length) : ∃ y, w.cell? ⟨g, j, none⟩ = some (.int .i64 y) := ⟨l[j], by rw [h.cell j]; simp [nInts, hj]⟩

set_option maxRecDepth 100000 in
set_option maxHeartbeats 8000000 in
theorem build_any (w : World) (bs bm : Nat) (vs : Value) (L : List Sym) (hs : SigAt w bs bm vs L) (hL : ∀ x ∈ L, 0 ≤ x.arity ∧ x.arity ≤ 6) (b : Nat) (room : Int) (v : Value) (N : List NV) (h : HeapAt w b room v N) (hr : Ranked (N.map (·.1))) (hr4 : room ≤ 4000) (hNr : (N.length : Int) ≤ room) (hA6 : ∀ x ∈ N, x.1.args.length ≤ 17592186044416)
    (va vb vc rv : Value) (R : List (List PartD)) (hR : RightsAt w (hfoot b v) rv R) (hlen : ∀ Q ∈ R, Q.length ≤ 4398046511104) (hlen2 : ∀ Q ∈ R, ∀ q ∈ Q, q.path.length ≤ 17592186044416) (k node : Nat) (hk : k < R.length) (_hnode : node < N.length) (nd0 : Nat) (hres : Res (N.map (·.1)) node nd0) :
    Calls Try.prog 13 #[.pointer (some ⟨bs, 0, none⟩), cv va vb vc rv, .pointer (some ⟨b, 0, none⟩), .int .i64 k, .int .i64 node] w fun e w' =>
      (∃ c i y ev, rightBad L (N.map (·.1)) room nd0 R[k] = some (c, i, y) ∧ e = .returned (.tuple #[.int .i64 0, ev]) ∧ FaultV w w' ev c i y ∧ Same w w') ∨
      (∃ v' M a, rightBad L (N.map (·.1)) room nd0 R[k] = none ∧ (layF L N.length (itemsF (N.map (·.1)) nd0 R[k])).1 = [a] ∧ e = .returned (.tuple #[.int .i64 a, .nilIface]) ∧ HeapAt w' b room v' (N ++ M) ∧ M.map (·.1) = (layF L N.length (itemsF (N.map (·.1)) nd0 R[k])).2 ∧ Turned (hfoot b v) w w' ∧ (v'.ownBlock = v.ownBlock ∨ ∃ j, v'.ownBlock = some j ∧ w.heap.size ≤ j)) := by
  have HS := Lib.hid hs; have HL := Lib.hid hL; have H := Lib.hid h; have HR := Lib.hid hr; have HRi := Lib.hid hR; have HA6 := Lib.hid hA6; have HRes := Lib.hid hres
  obtain ⟨rA, rc, rfl, hr2⟩ := hR
  obtain ⟨rbl, roff, rfl, _, hrc⟩ := hr2 (by omega)
  obtain ⟨pv, hpv, hQ⟩ := hrc k hk
  have HQl := Lib.hid (hlen R[k] (List.getElem_mem _))
  have HPl := Lib.hid (hlen2 R[k] (List.getElem_mem _))
  obtain ⟨Q, hQe⟩ : ∃ Q, Q = R[k] := ⟨_, rfl⟩
  rw [← hQe] at hQ HQl HPl
  rw [← hQe]
  have HQ := Lib.hid hQ
  obtain ⟨pA, pc, rfl, _⟩ := hQ
  have hrbl := World.block_lt_of_cell? _ _ hpv
  simp only at hrbl
  have hfew := hs.few
  have hk0 : (0 : Int) ≤ k := by omega
  have hk1 : (k : Int) < R.length := by omega
  have hk2 : ¬ (k : Int) ≥ R.length := by omega
  have hk3 : ¬ (k : Int) < 0 := by omega
  clear hs hL h hr hA6 hres hr2 hrc hlen hlen2 hQe
  have HB0 := Lib.hid (Blk.new w 39 #[va, vb, vc, .slice (some ⟨rbl, roff, none⟩) R.length rc])
  have S0 : Same w (w.alloc (.cells #[va, vb, vc, .slice (some ⟨rbl, roff, none⟩) R.length rc] 39)) := (Turned.refl _ _).alloc _
  have hpv0 := (S0.cell (p := ⟨rbl, roff + k, none⟩) hrbl (fun h => h)).trans hpv
  have HS0 := Lib.hid S0
  have c3 : (w.alloc (.cells #[va, vb, vc, .slice (some ⟨rbl, roff, none⟩) R.length rc] 39)).cell? ⟨w.heap.size, 3, none⟩ = some (.slice (some ⟨rbl, roff, none⟩) R.length rc) := (HB0.out.cell 3).trans rfl
  have c3l : w.heap.size < (w.alloc (.cells #[va, vb, vc, .slice (some ⟨rbl, roff, none⟩) R.length rc] 39)).heap.size := by simp
  obtain ⟨w0, hw0⟩ : ∃ w0, w0 = w.alloc (.cells #[va, vb, vc, .slice (some ⟨rbl, roff, none⟩) R.length rc] 39) := ⟨_, rfl⟩
  rw [← hw0] at HB0 hpv0 HS0 c3 c3l
  have HW0 := Lib.hid hw0
  clear S0 hw0 hpv
  go_enter Try.func13, Try.ntmps13
  go_wp2_with (first | rw [← HW0.out])
  refine (resolve_at _ b room v N (H.out.same HS0.out) HR.out node nd0 HRes.out).mono ?_
  rintro e w1 ⟨rfl, rfl⟩
  go_wp2_with (first | rw [← HW0.out])
  refine (of_any _ _).mono ?_
  rintro e w1 ⟨rfl, hs1⟩
  have HS1 : Hid (Same w w1) := HS0.out.trans hs1 (fun _ h => h.elim)
  clear hs1
  obtain ⟨i0, hi0, hz0, hz1, hz2⟩ := info_parts info3
  have hQl : Q.length ≤ 4398046511104 := HQl.out
  have hmk := fun W => run_make (P := Try.prog) W 26 3 i0 (.int .i64 0) Try.underlying26 hi0 hz0 .i64 .i64 Q.length Q.length (by omega) (by omega) (by rw [hz2]; have := HQl.out; omega) (by omega)
  simp only [hz1, Int.toNat_natCast, Nat.mul_one] at hmk
  clear hi0 hz0 hz1 hz2
  go_upto_region 10 with fail
  go_cut [15, 16] (fun s15 s16 wx => ∃ g1 g2, s15 = .slice (some ⟨g1, 0, none⟩) Q.length Q.length ∧ s16 = .slice (some ⟨g2, 0, none⟩) Q.length Q.length ∧ Hid (Same w wx ∧ g1 ≠ g2 ∧ w.heap.size ≤ g1 ∧ w.heap.size ≤ g2 ∧ w1.heap.size < g1 ∧ w1.heap.size < g2 ∧ Blk wx g1 3 (nInts (List.replicate Q.length 0)).toArray ∧ Blk wx g2 3 (nInts (List.replicate Q.length 0)).toArray ∧ Blk wx w1.heap.size 56 #[.pointer (some ⟨b, 0, none⟩)]))
  case first =>
    have hZ : Same w ((((w1.alloc (.cells #[.pointer (some ⟨b, 0, none⟩)] 56)).alloc (.cells (madeCells #[.int .i64 0] Q.length) 3)).alloc (.cells (madeCells #[.int .i64 0] Q.length) 3)).drew) := (((HS1.out.alloc _).alloc _).alloc _).drew
    have hZ1 : Blk ((((w1.alloc (.cells #[.pointer (some ⟨b, 0, none⟩)] 56)).alloc (.cells (madeCells #[.int .i64 0] Q.length) 3)).alloc (.cells (madeCells #[.int .i64 0] Q.length) 3)).drew) (w1.heap.size + 1) 3 (nInts (List.replicate Q.length 0)).toArray := by
      have h1 := (Blk.new (w1.alloc (.cells #[.pointer (some ⟨b, 0, none⟩)] 56)) 3 (madeCells #[.int .i64 0] Q.length)).alloc (.cells (madeCells #[.int .i64 0] Q.length) 3)
      rw [World.size_alloc] at h1
      exact (zeros_blk h1).drew
    have hZ2 : Blk ((((w1.alloc (.cells #[.pointer (some ⟨b, 0, none⟩)] 56)).alloc (.cells (madeCells #[.int .i64 0] Q.length) 3)).alloc (.cells (madeCells #[.int .i64 0] Q.length) 3)).drew) (w1.heap.size + 1 + 1) 3 (nInts (List.replicate Q.length 0)).toArray := by
      have h1 := Blk.new ((w1.alloc (.cells #[.pointer (some ⟨b, 0, none⟩)] 56)).alloc (.cells (madeCells #[.int .i64 0] Q.length) 3)) 3 (madeCells #[.int .i64 0] Q.length)
      rw [World.size_alloc, World.size_alloc] at h1
      exact (zeros_blk h1).drew
    have hZ3 : Blk ((((w1.alloc (.cells #[.pointer (some ⟨b, 0, none⟩)] 56)).alloc (.cells (madeCells #[.int .i64 0] Q.length) 3)).alloc (.cells (madeCells #[.int .i64 0] Q.length) 3)).drew) w1.heap.size 56 #[.pointer (some ⟨b, 0, none⟩)] := (((Blk.new w1 56 _).alloc _).alloc _).drew
    have HZ := Lib.hid (And.intro hZ (And.intro hZ1 (And.intro hZ2 hZ3)))
    have hsz := HS1.out.size
    clear hZ hZ1 hZ2 hZ3
    go_region_law (fail)
    all_goals
      go_wp2_with fail
      go_meet
      first
        | exact ⟨w1.heap.size + 1, w1.heap.size + 1 + 1, rfl, rfl, HZ.out.1, by omega, by omega, by omega, by omega, by omega, HZ.out.2.1, HZ.out.2.2.1, HZ.out.2.2.2⟩
        | exact ⟨w1.heap.size + 1 + 1, w1.heap.size + 1, rfl, rfl, HZ.out.1, by omega, by omega, by omega, by omega, by omega, HZ.out.2.2.1, HZ.out.2.1, HZ.out.2.2.2⟩
  case rest =>
    obtain ⟨g1, g2, rfl, rfl, HC⟩ := hcut
    clear hmk
    have HQw := Lib.hid (HQ.out.same HC.out.1)
    have hgsl : w1.heap.size < wc.heap.size := HC.out.2.2.2.2.2.2.2.2.lt
    have hnd0 : nd0 < N.length := by obtain ⟨h1, _⟩ := HRes.out.lt; simpa using h1
    go_wp2_with fail
    go_loopw [73] (fun i wr => ∃ j : Nat, j ≤ Q.length ∧ i = .int .i64 j ∧ Hid (BuildI w wr g1 g2 w1.heap.size b L (N.map (·.1)) nd0 Q j)) (fun i _ => Q.length - (intOf i).toNat)
    case atStart => exact ⟨0, Nat.zero_le _, rfl, HC.out.1, by rw [mkL_start]; exact HC.out.2.2.2.2.2.2.1, by rw [mkL_start]; exact HC.out.2.2.2.2.2.2.2.1, HC.out.2.2.2.2.2.2.2.2, by simp⟩
    case round =>
      obtain ⟨j, hj, rfl, HV⟩ := hrel
      rename World => wo
      by_cases hlt : j < Q.length
      · obtain ⟨A2, c2, ea, hA⟩ := HQ.out
        injection ea with e1 _ e2
        subst e1; subst e2
        obtain ⟨bl, off, rfl, _, hc⟩ := hA (by omega)
        obtain ⟨d0w, qv, d1w, hqv⟩ := hc j hlt
        have hbl := World.block_lt_of_cell? _ _ d0w
        simp only at hbl
        have d0 := (HV.out.same.cell (p := ⟨bl, off + j * 2, none⟩) hbl (fun h => h)).trans d0w
        have d1 := (HV.out.same.cell (p := ⟨bl, off + j * 2 + 1, none⟩) hbl (fun h => h)).trans d1w
        clear d0w d1w
        have hpl := HPl.out Q[j] (List.getElem_mem _)
        have hms := mkL_succ (fun q => q.sym) j Q hlt
        have hmh := mkL_succ (handF (N.map (·.1)) nd0) j Q hlt
        have htk : Q.take (j + 1) = Q.take j ++ [Q[j]] := List.take_succ_eq_append_getElem hlt
        have hbad : ∀ y, partBad L (N.map (·.1)) nd0 Q[j] = some y → rightBad L (N.map (·.1)) room nd0 Q = some (132, (j : Int), y) := by
          intro y hy
          unfold rightBad
          rw [partsBad_at hlt HV.out.ok hy]
        have hgood : partBad L (N.map (·.1)) nd0 Q[j] = none → ∀ q ∈ Q.take (j + 1), partBad L (N.map (·.1)) nd0 q = none := by
          intro hy q hq
          rw [htk, List.mem_append] at hq
          rcases hq with h | h
          · exact HV.out.ok q h
          · obtain rfl : q = Q[j] := by simpa using h
            exact hy
        obtain ⟨⟨sy, pth⟩, hx⟩ : ∃ x, x = Q[j] := ⟨_, rfl⟩
        rw [← hx] at d0 hqv hpl hms hmh hbad hgood
        simp only at d0 hqv hpl hms
        have HBad := Lib.hid hbad; have HGood := Lib.hid hgood; have HMs := Lib.hid hms; have HMh := Lib.hid hmh
        have HQv := Lib.hid hqv
        obtain ⟨qA, qc, rfl, _⟩ := hqv
        have hj0 : (0 : Int) ≤ j := by omega
        have hj1 : (j : Int) < Q.length := by omega
        have hlen1 : (mkL (fun q => q.sym) j Q).length = Q.length := mkL_length _ _ _
        obtain ⟨y1, e1⟩ := blk_int HV.out.l (j := j) (by rw [hlen1]; exact hlt)
        have f1 := HV.out.l.frozen j
        have l1 := HV.out.l.lt
        -- the part, and its symbol in the list
        have hW2 : ∀ o, Hid (Same w ((wo.setCell ⟨g1, j, none⟩ (.int .i64 sy)).alloc o) ∧ Blk ((wo.setCell ⟨g1, j, none⟩ (.int .i64 sy)).alloc o) g1 3 (nInts (mkL (fun q => q.sym) (j + 1) Q)).toArray ∧ Blk ((wo.setCell ⟨g1, j, none⟩ (.int .i64 sy)).alloc o) g2 3 (nInts (mkL (handF (N.map (·.1)) nd0) j Q)).toArray ∧ Blk ((wo.setCell ⟨g1, j, none⟩ (.int .i64 sy)).alloc o) w1.heap.size 56 #[.pointer (some ⟨b, 0, none⟩)]) := by
          intro o
          have ht : Turned (fun k => k = g1) wo (wo.setCell ⟨g1, j, none⟩ (.int .i64 sy)) := (Turned.refl (fun k => k = g1) wo).setCell (p := ⟨g1, j, none⟩) (.inl rfl) _
          refine ⟨(HV.out.same.trans ht (fun i hi => .inr (by subst hi; exact HC.out.2.2.1))).alloc o, ?_, (HV.out.h.turned ht (fun e => HC.out.2.1 e.symm)).alloc o, (HV.out.s.turned ht (fun e => by have := HC.out.2.2.2.2.1; omega)).alloc o⟩
          have h1 := (HV.out.l.set_ j (.int .i64 sy)).alloc o
          rw [nInts_set, ← HMs.out] at h1
          exact h1
        have HV2 : Hid (g2 < wo.heap.size) := HV.out.h.lt
        clear hc hA hx hms hmh htk hbad hgood HV hlen1
        go_wp2_with fail
        have hW3 := hW2 (Obj.cells #[.int .i64 sy, .slice qA pth.length qc] 78)
        have hP2 : Blk ((wo.setCell ⟨g1, j, none⟩ (.int .i64 sy)).alloc (Obj.cells #[.int .i64 sy, .slice qA pth.length qc] 78)) wo.heap.size 78 #[.int .i64 sy, .slice qA pth.length qc] := by
          have h1 := Blk.new (wo.setCell ⟨g1, j, none⟩ (.int .i64 sy)) 78 #[.int .i64 sy, .slice qA pth.length qc]
          have h2 : (wo.setCell ⟨g1, j, none⟩ (.int .i64 sy)).heap.size = wo.heap.size := by simp [World.setCell]
          rwa [h2] at h1
        clear hW2 d0 d1 e1 f1 l1
        generalize ((wo.setCell ⟨g1, j, none⟩ (.int .i64 sy)).alloc (Obj.cells #[.int .i64 sy, .slice qA pth.length qc] 78)) = W2 at hW3 hP2 ⊢
        have p0 : W2.cell? ⟨wo.heap.size, 0, none⟩ = some (.int .i64 sy) := (hP2.cell 0).trans rfl
        have p1 : W2.cell? ⟨wo.heap.size, 1, none⟩ = some (.slice qA pth.length qc) := (hP2.cell 1).trans rfl
        have hpbl := hP2.lt
        have HSg := Lib.hid (HS.out.turned hW3.out.1 (fun _ _ h => h))
        have HHp := Lib.hid (H.out.same hW3.out.1)
        clear hP2
        by_cases hbig : (L.length : Int) ≤ sy
        · have HB1 := Lib.hid (HBad.out 14 (by unfold partBad; simp only; rw [if_pos hbig]))
          have hge : sy ≥ (L.length : Int) := hbig
          have hde : decide (sy ≥ (L.length : Int)) = true := decide_eq_true hge
          have hde2 : decide ((L.length : Int) ≤ sy) = true := decide_eq_true hge
          go_quiet ((go_at_call 48; exact Calls.quiet_of_same ((len_any _ bs bm vs L (by exact HSg.out.turned ((Turned.refl (fun _ => False) _).drewN _) (fun _ _ h => h))).mono (fun _ _ h => ⟨h.1, h.2.symm⟩))))
          go_wp2_with fail
          go_ret2
          exact .inl ⟨132, j, 14, _, HB1.out, rfl, ⟨W2.heap.size, rfl, Blk.new (W2.drewN nq) 106 _, hW3.out.1.size⟩, (hW3.out.1.drewN nq).alloc _⟩
        · have hge : ¬ sy ≥ (L.length : Int) := hbig
          have hde : decide (sy ≥ (L.length : Int)) = false := decide_eq_false hge
          have hde2 : decide ((L.length : Int) ≤ sy) = false := decide_eq_false hge
          go_quiet ((go_at_call 48; exact Calls.quiet_of_same ((len_any _ bs bm vs L (by exact HSg.out.turned ((Turned.refl (fun _ => False) _).drewN _) (fun _ _ h => h))).mono (fun _ _ h => ⟨h.1, h.2.symm⟩))))
          have hS3 : Same W2 (W2.drewN nq) := (Turned.refl _ _).drewN nq
          obtain ⟨W3, hW3e⟩ : ∃ W3, W3 = W2.drewN nq := ⟨_, rfl⟩
          rw [← hW3e] at hS3
          rw [← hW3e]
          have HI3 : Hid (Same w W3 ∧ Blk W3 g1 3 (nInts (mkL (fun q => q.sym) (j + 1) Q)).toArray ∧ Blk W3 g2 3 (nInts (mkL (handF (N.map (·.1)) nd0) j Q)).toArray ∧ Blk W3 w1.heap.size 56 #[.pointer (some ⟨b, 0, none⟩)]) := ⟨hW3.out.1.trans hS3 (fun _ h => h.elim), hW3.out.2.1.turned hS3 (fun h => h), hW3.out.2.2.1.turned hS3 (fun h => h), hW3.out.2.2.2.turned hS3 (fun h => h)⟩
          have p0' := (hS3.cell (p := ⟨wo.heap.size, 0, none⟩) hpbl (fun h => h)).trans p0
          have p1' := (hS3.cell (p := ⟨wo.heap.size, 1, none⟩) hpbl (fun h => h)).trans p1
          have hpbl3 : wo.heap.size < W3.heap.size := by have := hS3.size; omega
          have HSg3 := Lib.hid (HS.out.turned HI3.out.1 (fun _ _ h => h))
          clear p0 p1 hW3 HSg HHp hW3e hS3 hpbl
          by_cases hlow : sy < -1
          · have HB1 := Lib.hid (HBad.out 0 (by unfold partBad; simp only; rw [if_neg hbig, if_pos hlow]))
            go_wp2_with fail
            go_ret2
            exact .inl ⟨132, j, 0, HB1.out, _, rfl, ⟨W3.heap.size, rfl, Blk.new W3 106 _, HI3.out.1.size⟩, HI3.out.1.alloc _⟩
          · by_cases hm1 : sy = -1
            · subst hm1
              have hml : (mkL (handF (N.map (·.1)) nd0) j Q).length = Q.length := mkL_length _ _ _
              obtain ⟨y2, e2⟩ := blk_int HI3.out.2.2.1 (j := j) (by rw [hml]; exact hlt)
              have f2 := HI3.out.2.2.1.frozen j
              have l2 := HI3.out.2.2.1.lt
              have HP0 : Hid (PathI w (W3.setCell ⟨g2, j, none⟩ (.int .i64 nd0)) g1 g2 w1.heap.size b (N.map (·.1)) nd0 Q j pth 0) := by
                have ht : Turned (fun k => k = g2) W3 (W3.setCell ⟨g2, j, none⟩ (.int .i64 nd0)) := (Turned.refl (fun k => k = g2) W3).setCell (p := ⟨g2, j, none⟩) (.inl rfl) _
                have h1 := HC.out.2.1; have h2 := HC.out.2.2.2.1; have h3 := HC.out.2.2.2.2.2.1
                refine ⟨HI3.out.1.trans ht (fun i hi => .inr (by omega)), HI3.out.2.1.turned ht h1, ?_, HI3.out.2.2.2.turned ht (by omega)⟩
                have := HI3.out.2.2.1.set_ j (.int .i64 nd0)
                rw [nInts_set] at this
                exact this
              have hg2w : g2 ≠ wo.heap.size := by have := HV2.out; unfold Hid at this; omega
              have p1'' : (W3.setCell ⟨g2, j, none⟩ (.int .i64 nd0)).cell? ⟨wo.heap.size, 1, none⟩ = some (.slice qA pth.length qc) := by
                exact (World.cell?_setCell_far W3 ⟨g2, j, none⟩ ⟨wo.heap.size, 1, none⟩ _ hg2w).trans p1'
              clear hml HI3
              go_wp2_with fail
              have HLe : Hid (∀ m : Nat, (nInts ((mkL (handF (N.map (·.1)) nd0) j Q).set j (leadF (N.map (·.1)) nd0 (pth.take m))))[j]? = some (.int .i64 (leadF (N.map (·.1)) nd0 (pth.take m)))) := by
                intro m
                have h1 : j < (mkL (handF (N.map (·.1)) nd0) j Q).length := by rw [mkL_length]; exact hlt
                simp [nInts, h1]
              clear e2 f2 l2 p0' p1'' p1' hpbl3
              go_loopw [113] (fun i wr => ∃ m : Nat, m ≤ pth.length ∧ i = .int .i64 m ∧ Hid (PathI w wr g1 g2 w1.heap.size b (N.map (·.1)) nd0 Q j pth m)) (fun i _ => pth.length - (intOf i).toNat)
              case atStart => exact ⟨0, Nat.zero_le _, rfl, HP0⟩
              case round =>
                obtain ⟨m, hm, rfl, HPI⟩ := hrel
                rename World => wi
                have g2c : wi.cell? ⟨g2, j, none⟩ = some (.int .i64 (leadF (N.map (·.1)) nd0 (pth.take m))) := (HPI.out.h.cell j).trans (by rw [List.getElem?_toArray]; exact HLe.out m)
                have g2l := HPI.out.h.lt
                have g2f := HPI.out.h.frozen j
                by_cases hlt2 : m < pth.length
                · obtain ⟨A3, c3', ea3, hA3⟩ := HQv.out
                  injection ea3 with e1 _ e2
                  subst e1; subst e2
                  obtain ⟨pbl, poff, rfl, _, hpc⟩ := hA3 (by omega)
                  have pw := hpc m hlt2
                  have pwl := World.block_lt_of_cell? _ _ pw
                  simp only at pwl
                  have pi := (HPI.out.same.cell (p := ⟨pbl, poff + m, none⟩) pwl (fun h => h)).trans pw
                  have si : wi.cell? ⟨w1.heap.size, 0, none⟩ = some (.pointer (some ⟨b, 0, none⟩)) := (HPI.out.s.cell 0).trans rfl
                  have hm0 : (0 : Int) ≤ m := by omega
                  have hm1 : (m : Int) < pth.length := by omega
                  have hpl2 : (pth.length : Int) < 9223372036854775807 := by omega
                  clear pw pwl hpc hA3 HP0
                  go_upto_region 24 with fail
                  go_region_law ((go_simp; go_at_call 22; refine (arg_any _ b room v N (by exact H.out.same HPI.out.same.drew) HR.out HA6.out _ _).mono ?_; rintro e w4 ⟨rfl, hs40⟩; have hs4 : Same wi w4 := ((Turned.refl _ wi).drew).trans hs40 (fun _ h => h.elim); have HPn := Lib.hid (HPI.out.step hs4 HC.out.2.2.2.1 HC.out.2.1 (by have := HC.out.2.2.2.2.2.1; omega) hlt2); have g4l := Nat.lt_of_lt_of_le g2l hs4.size; have g4f := (hs4.frozen (p := ⟨g2, j, none⟩) g2l (fun h => h)).trans g2f; have g4c := (hs4.cell (p := ⟨g2, j, none⟩) g2l (fun h => h)).trans g2c; clear pi si hs4 hs40 g2c g2l g2f))
                  all_goals
                    go_wp2_with fail
                    go_roundw
                    case rel => exact ⟨m + 1, by omega, by go_num, HPn⟩
                    case measure => simp [intOf]; omega
                · have hmm : m = pth.length := by omega
                  subst hmm
                  rw [List.take_length] at g2c
                  have HPI' := HPI.out.h
                  rw [List.take_length] at HPI'
                  have HF : Hid (Same w wi ∧ Blk wi g1 3 (nInts (mkL (fun q => q.sym) (j + 1) Q)).toArray ∧ Blk wi g2 3 (nInts ((mkL (handF (N.map (·.1)) nd0) j Q).set j (leadF (N.map (·.1)) nd0 pth))).toArray ∧ Blk wi w1.heap.size 56 #[.pointer (some ⟨b, 0, none⟩)]) := ⟨HPI.out.same, HPI.out.l, HPI', HPI.out.s⟩
                  clear HPI HPI' HP0 HLe
                  by_cases hneg : leadF (N.map (·.1)) nd0 pth < 0
                  · have HB1 := Lib.hid (HBad.out 0 (by unfold partBad; simp only; rw [if_neg (by omega), if_neg (by omega), if_pos ⟨trivial, hneg⟩]))
                    go_wp2_with fail
                    go_ret2
                    exact .inl ⟨132, j, 0, HB1.out, _, rfl, ⟨wi.heap.size, rfl, Blk.new wi 106 _, HF.out.1.size⟩, HF.out.1.alloc _⟩
                  · have HN : Hid (BuildI w wi g1 g2 w1.heap.size b L (N.map (·.1)) nd0 Q (j + 1)) := by
                      refine ⟨HF.out.1, HF.out.2.1, ?_, HF.out.2.2.2, HGood.out (by unfold partBad; simp only; rw [if_neg (by omega), if_neg (by omega), if_neg (fun h => hneg h.2)])⟩
                      rw [HMh.out]
                      have e0 : handF (N.map (·.1)) nd0 ⟨-1, pth⟩ = leadF (N.map (·.1)) nd0 pth := by unfold handF; rw [if_pos rfl]
                      rw [e0]
                      exact HF.out.2.2.1
                    go_wp2_with fail
                    go_roundw
                    case rel => exact ⟨j + 1, by omega, by go_num, HN.out⟩
                    case measure => simp [intOf]; omega
            · have hm1b : (sy == -1) = false := by rw [beq_eq_false_iff_ne]; exact hm1
              have HN : Hid (BuildI w W3 g1 g2 w1.heap.size b L (N.map (·.1)) nd0 Q (j + 1)) := by
                refine ⟨HI3.out.1, HI3.out.2.1, ?_, HI3.out.2.2.2, HGood.out (by unfold partBad; simp only; rw [if_neg hbig, if_neg hlow, if_neg (fun h => hm1 h.1)])⟩
                rw [HMh.out]
                have e0 : handF (N.map (·.1)) nd0 ⟨sy, pth⟩ = 0 := by unfold handF; rw [if_neg hm1]
                rw [e0]
                have e1 : (mkL (handF (N.map (·.1)) nd0) j Q).set j 0 = mkL (handF (N.map (·.1)) nd0) j Q := by
                  apply List.ext_getElem
                  · simp
                  · intro i h1 h2
                    rw [List.getElem_set]
                    by_cases he : j = i
                    · subst he; simp [mkL]
                    · rw [if_neg he]
                rw [e1]; exact HI3.out.2.2.1
              go_wp2_with fail
              go_roundw
              case rel => exact ⟨j + 1, by omega, by go_num, HN.out⟩
              case measure => simp [intOf]; omega
      · have hjj : j = Q.length := by omega
        subst hjj
        have hok := HV.out.ok
        rw [List.take_length] at hok
        have HPs : Hid (partsBad (partBad L (N.map (·.1)) nd0) 0 Q = none) := partsBad_none hok
        have HSy : Hid (∀ q ∈ Q, q.sym < L.length) := by
          intro q hq
          have h1 := hok q hq
          unfold partBad at h1
          by_cases h2 : (L.length : Int) ≤ q.sym
          · rw [if_pos h2] at h1; cases h1
          · omega
        have HHd : Hid (∀ q ∈ Q, q.sym < 0 → q.sym = -1 ∧ ∃ t : Nat, leadF (N.map (·.1)) nd0 q.path = (t : Int) ∧ t < N.length) := by
          intro q hq hneg
          have h1 := hok q hq
          unfold partBad at h1
          by_cases h2 : (L.length : Int) ≤ q.sym
          · rw [if_pos h2] at h1; cases h1
          · rw [if_neg h2] at h1
            by_cases h3 : q.sym < -1
            · rw [if_pos h3] at h1; cases h1
            · rw [if_neg h3] at h1
              have h4 : q.sym = -1 := by omega
              refine ⟨h4, ?_⟩
              rcases leadF_in HR.out q.path (nd0 : Int) (.inr ⟨nd0, rfl, by simpa using hnd0⟩) with h5 | ⟨t, h5, h6⟩
              · rw [if_pos ⟨h4, by rw [h5]; decide⟩] at h1; cases h1
              · exact ⟨t, h5, by simpa using h6⟩
        have HBI := Lib.hid HV.out
        have HSg := Lib.hid (HS.out.turned HV.out.same (fun _ _ h => h))
        clear hok HV
        go_wp2_with fail
        refine (shaped_any _ bs bm vs L HSg.out HL.out (hfoot b v) _ Q (HQ.out.same HBI.out.same) HSy.out hQl).mono ?_
        rintro e w5 ⟨mm, rfl, hmm, hs5⟩
        have HMm := Lib.hid hmm
        have HS5 : Hid (Same w w5) := HBI.out.same.trans hs5 (fun _ h => h.elim)
        have HL5 := Lib.hid (HBI.out.l.turned hs5 (fun h => h))
        have HH5 := Lib.hid (HBI.out.h.turned hs5 (fun h => h))
        clear hmm hs5
        cases hwb : wellB L 1 (Q.map (·.sym)) with
        | false =>
          have HBd : Hid (rightBad L (N.map (·.1)) room nd0 Q = some (130, 0, 0)) := by
            unfold Hid rightBad; rw [HPs.out]; simp only; rw [if_pos hwb]
          clear hwb
          go_wp2_with fail
          go_ret2
          exact .inl ⟨130, 0, 0, _, HBd.out, rfl, ⟨w5.heap.size, rfl, Blk.new w5 106 _, HS5.out.size⟩, HS5.out.alloc _⟩
        | true =>
          have HWell : Hid (Well L 1 (Q.map (·.sym))) := (wellB_iff L _ _).1 hwb
          obtain rfl : mm = cntP (Q.map (·.sym)) := HMm.out HWell.out
          have HWb := Lib.hid hwb
          clear hwb
          have HHp := Lib.hid (H.out.same HS5.out)
          have hwp : IntKind.i64.wrap (room - (N.length : Int)) = room - N.length := wrap_small _ (by omega) (by omega)
          have HNr := Lib.hid hNr
          obtain ⟨cn, hcn⟩ : ∃ cn : Int, cn = (cntP (Q.map (·.sym)) : Int) := ⟨_, rfl⟩
          have HCn := Lib.hid hcn
          rw [← hcn]
          clear hcn
          by_cases hfull : room - N.length < cn
          · have HBd : Hid (rightBad L (N.map (·.1)) room nd0 Q = some (131, 0, 111)) := by
              unfold Hid rightBad; rw [HPs.out]; simp only; rw [HWb.out, if_neg (by decide), if_pos]
              rw [List.length_map, ← HCn.out]; exact hfull
            have hgt : cn > room - N.length := hfull
            go_wp2_with fail
            refine (room_any _ b room v N HHp.out).mono ?_
            rintro e w6 ⟨rfl, rfl⟩
            go_wp2_with fail
            refine (used_any _ b room v N HHp.out).mono ?_
            rintro e w6 ⟨rfl, rfl⟩
            go_wp2_with fail
            refine (full_any _).mono ?_
            rintro e w6 ⟨rfl, hB6, hs6⟩
            have HB6 := Lib.hid hB6
            have HS6 : Hid (Same w w6) := HS5.out.trans hs6 (fun _ h => h.elim)
            clear hB6 hs6
            go_wp2_with fail
            go_ret2
            exact .inl ⟨131, 0, 111, _, HBd.out, rfl, ⟨w5.heap.size, rfl, HB6.out, HS5.out.size⟩, HS6.out⟩
          · have HGd : Hid (rightBad L (N.map (·.1)) room nd0 Q = none) := by
              unfold Hid rightBad; rw [HPs.out]; simp only; rw [HWb.out, if_neg (by decide), if_neg]
              rw [List.length_map, ← HCn.out]; exact hfull
            have hgt : ¬ cn > room - N.length := hfull
            have HMap : Hid ((itemsF (N.map (·.1)) nd0 Q).map (·.1) = Q.map (·.sym)) := by simp [Hid, itemsF, List.map_map, Function.comp_def]
            have HSyms : Hid ((syms (itemsF (N.map (·.1)) nd0 Q) : Int) = cn) := by
              unfold Hid
              rw [HCn.out]
              unfold syms cntP itemsF
              rw [List.filter_map, List.filter_map, List.length_map, List.length_map]
              rfl
            have HLay : Hid (Calls Try.prog 52 #[.pointer (some ⟨bs, 0, none⟩), .pointer (some ⟨b, 0, none⟩), .slice (some ⟨g1, 0, none⟩) Q.length Q.length, .slice (some ⟨g2, 0, none⟩) Q.length Q.length] w5 fun e w' => ∃ v' M a, (layF L N.length (itemsF (N.map (·.1)) nd0 Q)).1 = [a] ∧ e = .returned (.tuple #[.int .i64 a, .nilIface]) ∧ HeapAt w' b room v' (N ++ M) ∧ M.map (·.1) = (layF L N.length (itemsF (N.map (·.1)) nd0 Q)).2 ∧ Turned (hfoot b v) w5 w' ∧ (v'.ownBlock = v.ownBlock ∨ ∃ j, v'.ownBlock = some j ∧ w5.heap.size ≤ j)) := by
              have hnf1 : ¬ hfoot b v g1 := fun h => by have := H.out.flt g1 h; have := HC.out.2.2.1; omega
              have hnf2 : ¬ hfoot b v g2 := fun h => by have := H.out.flt g2 h; have := HC.out.2.2.2.1; omega
              refine lay_any w5 bs bm vs L (HS.out.turned HS5.out (fun _ _ h => h)) HL.out b room v N HHp.out hr4 (itemsF (N.map (·.1)) nd0 Q) _ _ ?_ ?_ (by rw [HMap.out]; exact HWell.out) (fun x hx => ?_) (fun x hx hn => ?_) ?_ (by simp [itemsF]; exact hQl)
              · rw [HMap.out]
                refine ⟨some ⟨g1, 0, none⟩, Q.length, by simp, fun _ => ⟨g1, 0, rfl, hnf1, fun m hm => ?_⟩⟩
                have h1 := HL5.out.cell m
                rw [mkL_full] at h1
                rw [Nat.zero_add, h1, List.getElem?_toArray]
                simp only [nInts, List.getElem?_map, List.getElem?_eq_getElem hm, Option.map_some]
              · refine ⟨some ⟨g2, 0, none⟩, Q.length, Q.length, rfl, fun m hm hn => ⟨by simpa [itemsF] using hm, g2, 0, rfl, hnf2, ?_⟩⟩
                have h1 := HH5.out.cell m
                rw [mkL_full] at h1
                rw [Nat.zero_add, h1, List.getElem?_toArray]
                have hm2 : m < Q.length := by simpa [itemsF] using hm
                simp [nInts, itemsF, hm2]
              · obtain ⟨q, hq, rfl⟩ := List.mem_map.1 hx
                exact HSy.out q hq
              · obtain ⟨q, hq, rfl⟩ := List.mem_map.1 hx
                obtain ⟨h1, t, h2, h3⟩ := HHd.out q hq hn
                exact ⟨t, by simp only [handF, if_pos h1]; exact h2, h3⟩
              · have := HSyms.out; have := HNr.out; omega
            go_wp2_with fail
            refine (room_any _ b room v N HHp.out).mono ?_
            rintro e w6 ⟨rfl, rfl⟩
            go_wp2_with fail
            refine (used_any _ b room v N HHp.out).mono ?_
            rintro e w6 ⟨rfl, rfl⟩
            go_wp2_with fail
            refine HLay.out.mono ?_
            rintro e w7 ⟨v7, M7, a7, ha7, rfl, hH7, hM7, ht7, hv7⟩
            have HA7 := Lib.hid ha7; have HH7 := Lib.hid hH7; have HM7 := Lib.hid hM7
            have HT7 : Hid (Turned (hfoot b v) w w7) := (HS5.out.mono (fun _ h => h.elim)).trans ht7 (fun i hi => .inl hi)
            have HV7 : Hid (v7.ownBlock = v.ownBlock ∨ ∃ j, v7.ownBlock = some j ∧ w.heap.size ≤ j) := hfoot_moved (.inl rfl) HS5.out.size hv7
            clear ha7 hH7 hM7 ht7 hv7
            go_wp2_with fail
            go_ret2
            exact .inr ⟨v7, M7, a7, HGd.out, HA7.out, rfl, HH7.out, HM7.out, HT7.out, HV7.out⟩
end Go.Proofs.Yteohhiefchoamaa
