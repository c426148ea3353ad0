/-
  The walk of SpineFrames.
-/
import Derived.Test.YthfhjopofpffgaaPaths
namespace Go.Proofs.Ythfhjopofpffgaa
open Go.RowKit

theorem pblocks_lt {w : World} {b : Nat} {v : Value} {F : List FV} (h : SpAt w b v F) : ∀ k, pblocks F k → k < w.heap.size := by
  intro k hk
  obtain ⟨x, hx, hk⟩ := hk
  rcases h.paths x hx with ⟨e, _⟩ | ⟨g, e, hg⟩
  · rw [e] at hk; simp [Value.ownBlock] at hk
  · rw [e] at hk
    obtain rfl : g = k := by simpa [Value.ownBlock] using hk
    exact hg.lt

/-- A second spine, and a list of numbers of the call's own beside it. -/
structure TI (w wr : World) (b : Nat) (v : Value) (F : List FV) (p : Value) (P : List Int) : Prop where
  si : SI w wr b v F
  own : wr.ownsRow 0 3 1 p P.length (intVals P)
  new : ∀ j, p.ownBlock = some j → w.heap.size ≤ j ∧ ¬ pblocks F j
section
variable {w wr w' : World} {b : Nat} {v v' : Value} {F : List FV} {p p' : Value} {P Q : List Int}
theorem TI.apart (h : TI w wr b v F p P) : ∀ j, p.ownBlock = some j → ¬ foot b v j := by
  intro j hj hf
  rcases hf with rfl | hf
  · exact own_blk_ne h.own h.si.sp.blk (by decide) hj
  · exact own_own_ne h.own h.si.sp.own (by decide) j hj hf
theorem TI.later (h : TI w wr b v F p P) (ht : Same wr w') : TI w w' b v F p P := ⟨h.si.later ht, World.ownsRow.turned h.own ht (fun _ _ h => h), h.new⟩
theorem TI.app (h : TI w wr b v F p P) (hg : wr.grownBy w' p.ownBlock) (ho : w'.ownsRow 0 3 1 p' (P ++ Q).length (intVals (P ++ Q))) (hat : p'.ownBlock = p.ownBlock ∨ p'.ownBlock = some wr.heap.size) : TI w w' b v F p' (P ++ Q) := by
  have ht : Turned (fun k => p.ownBlock = some k) wr w' := (Turned.refl _ _).grown hg (fun k hk => .inl hk)
  refine ⟨⟨h.si.sp.turned ht (fun k hk e => h.apart k e hk) (fun k hk e => (h.new k e).2 hk), h.si.same.trans ht (fun i hi => .inr (h.new i hi).1), h.si.hi, h.si.hp⟩, ho, fun j hj => ?_⟩
  rcases hat with e | e
  · exact h.new j (by rw [← e]; exact hj)
  · rw [e] at hj
    obtain rfl : wr.heap.size = j := by simpa using hj
    exact ⟨h.si.same.size, fun hp => by have := pblocks_lt h.si.sp _ hp; omega⟩
theorem TI.push {f : Fr} {pv' : Value} (h : TI w wr b v F p P) (hs : SpAt w' b v' (F ++ [(f, pv')])) (ht : Turned (foot b v) wr w') (hv : v'.ownBlock = v.ownBlock ∨ ∃ k, v'.ownBlock = some k ∧ wr.heap.size ≤ k)
    (hq : ∃ g, pv' = .slice (some ⟨g, 0, none⟩) f.path.length f.path.length ∧ wr.heap.size ≤ g) : TI w w' b v' (F ++ [(f, pv')]) p P := by
  refine ⟨h.si.push hs ht hv hq, World.ownsRow.turned h.own ht (fun k hk e => h.apart k hk e), fun j hj => ⟨(h.new j hj).1, fun hp => ?_⟩⟩
  obtain ⟨x, hx, hk⟩ := hp
  rw [List.mem_append] at hx
  rcases hx with hx | hx
  · exact (h.new j hj).2 ⟨x, hx, hk⟩
  · obtain rfl : x = _ := by simpa using hx
    obtain ⟨g, e, hg⟩ := hq
    simp only at hk
    rw [e] at hk
    obtain rfl : g = j := by simpa [Value.ownBlock] using hk
    have := (h.own.lt g hj).2
    omega
theorem TI.turn {x : FV} {f : Fr} {pv' : Value} (h : TI w wr b v (F ++ [x]) p P) (hs : SpAt w' b v (F ++ [(f, pv')])) (ht : Turned (foot b v) wr w')
    (hq : ∃ g, pv' = .slice (some ⟨g, 0, none⟩) f.path.length f.path.length ∧ wr.heap.size ≤ g) : TI w w' b v (F ++ [(f, pv')]) p P := by
  refine ⟨h.si.turn hs ht hq, World.ownsRow.turned h.own ht (fun k hk e => h.apart k hk e), fun j hj => ⟨(h.new j hj).1, fun hp => ?_⟩⟩
  obtain ⟨y, hy, hk⟩ := hp
  rw [List.mem_append] at hy
  rcases hy with hy | hy
  · exact (h.new j hj).2 ⟨y, by simp [hy], hk⟩
  · obtain rfl : y = _ := by simpa using hy
    obtain ⟨g, e, hg⟩ := hq
    simp only at hk
    rw [e] at hk
    obtain rfl : g = j := by simpa [Value.ownBlock] using hk
    have := (h.own.lt g hj).2
    omega
end
theorem flatF_take (Y : List Fr) (k : Nat) (h : k < Y.length) : flatF (Y.take (k + 1)) = flatF (Y.take k) ++ Y[k].path := by
  rw [List.take_succ_eq_append_getElem h]; unfold flatF; rw [List.flatMap_append]; congr 1; simp only [List.flatMap_cons, List.flatMap_nil, List.append_nil]
theorem flatF_take_le (Y : List Fr) (k : Nat) : (flatF (Y.take k)).length ≤ (flatF Y).length := by
  unfold flatF
  conv => rhs; rw [← List.take_append_drop k Y]
  rw [List.flatMap_append, List.length_append]
  omega

/-- What the law has read of the first spine. -/
structure Got (w : World) (f n p : Value) (G : List FV) (Y : List Fr) : Prop where
  same : G.map (·.1) = Y
  fr : w.ownsRow 0 25 4 f G.length (fall G)
  frp : ∀ x ∈ G, PAt w x.2 x.1.path
  no : w.ownsRow 0 3 1 n Y.length (intVals (Y.map (·.node)))
  pa : w.ownsRow 0 3 1 p (flatF Y).length (intVals (flatF Y))
theorem Got.later {w w' : World} {f n p : Value} {G : List FV} {Y : List Fr} (h : Got w f n p G Y) (ht : Same w w') : Got w' f n p G Y :=
  ⟨h.same, World.ownsRow.turned h.fr ht (fun _ _ h => h), fun x hx => (h.frp x hx).turned ht (fun _ _ h => h), World.ownsRow.turned h.no ht (fun _ _ h => h), World.ownsRow.turned h.pa ht (fun _ _ h => h)⟩

theorem Got.at_ {w : World} {f n p : Value} {fa na : Option Addr} {fc nc : Nat} {G : List FV} {Y : List Fr} (h : Got w f n p G Y) (hf : f = .slice fa Y.length fc) (hn : n = .slice na Y.length nc) (k : Nat) (hk : k < Y.length) :
    ∃ gf gn pv, fa = some ⟨gf, 0, none⟩ ∧ na = some ⟨gn, 0, none⟩ ∧ w.cell? ⟨gn, k, none⟩ = some (.int .i64 Y[k].node) ∧ w.cell? ⟨gf, k * 4, none⟩ = some (.int .i64 Y[k].node) ∧ w.cell? ⟨gf, k * 4 + 1, none⟩ = some (.bool Y[k].whole) ∧ w.cell? ⟨gf, k * 4 + 2, none⟩ = some (.int .i64 Y[k].next) ∧ w.cell? ⟨gf, k * 4 + 3, none⟩ = some pv ∧ PAt w pv Y[k].path := by
  subst hf hn
  have hno := h.no
  obtain ⟨_, _, h3⟩ := rd_own hno
  obtain ⟨gn, rfl, _, hc⟩ := h3 (by omega)
  have hgl : G.length = Y.length := by have := congrArg List.length h.same; simpa using this
  have hfr := h.fr
  obtain ⟨gf, cap, hv, _, hg⟩ := hfr.form (by omega)
  obtain ⟨rfl, _, _⟩ : fa = some ⟨gf, 0, none⟩ ∧ Y.length = G.length ∧ fc = cap := by simpa using hv
  have hcc := hfr.cells (g := gf) rfl
  obtain ⟨e0, e1, e2, e3⟩ := fall_at G k (by omega)
  have d0 := hcc _ _ e0
  have d1 := hcc _ _ e1
  have d2 := hcc _ _ e2
  have d3 := hcc _ _ e3
  simp only [Addr.add_lit, Nat.zero_add] at d0 d1 d2 d3
  have hy : Y[k] = (G[k]'(by omega)).1 := by
    have : Y[k]? = (G.map (·.1))[k]? := by rw [h.same]
    rw [List.getElem?_eq_getElem hk, List.getElem?_map, List.getElem?_eq_getElem (by omega)] at this
    simpa using this
  refine ⟨gf, gn, _, rfl, rfl, ?_, ?_, ?_, ?_, d3, ?_⟩
  · have := hc k (by simpa using hk)
    simpa using this
  · rw [hy]; exact d0
  · rw [hy]; exact d1
  · rw [hy]; exact d2
  · rw [hy]; exact h.frp _ (List.getElem_mem _)
theorem pat_src {w : World} {pv : Value} {P : List Int} (h : PAt w pv P) : ∃ A c, pv = .slice A P.length c ∧ (0 < P.length → ∃ ad, A = some ad ∧ ∀ j u, (intVals P)[j]? = some u → w.cell? (ad.add j) = some u) := by
  obtain ⟨A, c, e, hA⟩ := PAt.rd h
  refine ⟨A, c, e, fun h0 => ?_⟩
  obtain ⟨bl, off, rfl, hc⟩ := hA h0
  refine ⟨_, rfl, fun j u hu => ?_⟩
  simp only [intVals, List.getElem?_map, Option.map_eq_some_iff] at hu
  obtain ⟨n, hn, rfl⟩ := hu
  obtain ⟨hj, rfl⟩ := List.getElem?_eq_some_iff.1 hn
  rw [Addr.add_lit]
  exact hc j hj

set_option maxRecDepth 100000 in
set_option maxHeartbeats 4000000 in
theorem frames_law (w : World) (root : Int) (v : Value) (X : List Fr) (hX : FOld w w.heap.size v X) (hl : X.length ≤ 1048576) (hS : (flatF X).length ≤ 1048576) :
    Calls Try.prog 5 #[.int .i64 root, v] w fun e w' => e = .returned (.bool true) ∧ Below w.heap.size w w' := by
  have HX := Lib.hid hX
  have HL : Hid (∀ x ∈ X, x.path.length ≤ 17592186044416) := by
    intro x hx
    have : x.path.length ≤ (flatF X).length := by
      unfold flatF
      obtain ⟨a, b, rfl⟩ := List.append_of_mem hx
      simp; omega
    omega
  obtain ⟨A, c, rfl, hA⟩ := hX
  clear hA
  go_enter Try.func5, Try.ntmps5
  go_wp2_with fail
  refine (awake_any _).mono ?_
  rintro e w1 ⟨rfl, h1⟩
  have H1 := Lib.hid h1
  have HX1 := Lib.hid ((HX.out.same h1).more H1.out.size)
  clear h1 HX
  go_wp2_with fail
  refine (filled_any _ root _ X HX1.out (by omega) HL.out).mono ?_
  rintro e w2 ⟨b, v2, F2, rfl, hS2, hF2⟩
  have HS2 := Lib.hid hS2
  obtain ⟨Y, hY⟩ : ∃ Y, Y = rootFr root :: X := ⟨_, rfl⟩
  rw [← hY] at hF2
  have hYl : Y.length = X.length + 1 := by rw [hY]; rfl
  have hYf : flatF Y = flatF X := by rw [hY]; exact flatF_root root X
  have hYL : ∀ x ∈ Y, x.path.length ≤ 17592186044416 := by
    intro x hx; rw [hY] at hx
    rcases List.mem_cons.1 hx with e | hm
    · rw [e]; simp [rootFr]
    · exact HL.out _ hm
  rw [← hYf] at hS
  have hYl2 : Y.length ≤ 1048577 := by omega
  have HF2 := Lib.hid hF2; have HYL := Lib.hid hYL; have HYl := Lib.hid hYl
  have hFl : Hid (F2.length = Y.length) := by
    have := congrArg List.length hF2
    simpa [Hid] using this
  have hFlat : Hid (flat F2 = flatF Y) := flat_map F2 _ hF2
  have hNodes : Hid (nodesOf F2 = Y.map (·.node)) := by
    unfold Hid nodesOf; rw [← hF2, List.map_map]; rfl
  have HL2 : Hid (∀ x ∈ F2, x.1.path.length ≤ 17592186044416) := by
    intro x hx
    exact HYL.out x.1 (by rw [← HF2.out]; exact List.mem_map_of_mem hx)
  have HB48 : Hid (F2.length * 48 ≤ 140737488355328) := by have := hFl.out; unfold Hid; omega
  have HS8 : Hid ((flat F2).length * 8 ≤ 140737488355328) := by rw [hFlat.out]; unfold Hid; omega
  clear hS2 hF2 hYL hYl hY hYf
  go_wp2_with fail
  refine (frames_any _ b v2 F2 HS2.out.sp HB48.out HL2.out).mono ?_
  rintro e w3 ⟨f3, G, rfl, hs3, hG3, ho3, hp3, hq3⟩
  have HG3 := Lib.hid hG3; have HO3 := Lib.hid ho3; have HQ3 : Hid (∀ x ∈ G, PAt w3 x.2 x.1.path) := fun x hx => (hq3 x hx).1
  have HS3 := Lib.hid (HS2.out.later hs3)
  obtain ⟨fa, fc, rfl, _, _⟩ := own_shape ho3
  clear hs3 hG3 ho3 hp3 hq3
  go_wp2_with fail
  refine (nodes_any _ b v2 F2 HS3.out.sp HB48.out HL2.out).mono ?_
  rintro e w4 ⟨n4, rfl, hs4, ho4, hp4⟩
  obtain ⟨na, nc, rfl, _, _⟩ := own_shape ho4
  have HO4 := Lib.hid ho4
  have HS4 := Lib.hid (HS3.out.later hs4)
  have HSS4 := Lib.hid hs4
  clear hs4 ho4 hp4
  go_wp2_with fail
  refine (path_any _ b v2 F2 HS4.out.sp HB48.out HL2.out HS8.out).mono ?_
  rintro e w5 ⟨p5, rfl, hs5, ho5, hp5⟩
  obtain ⟨pa, pc, rfl, _, _⟩ := own_shape ho5
  have hGl : Hid (G.length = Y.length) := by
    have := congrArg List.length HG3.out
    have h2 := hFl.out
    simp at this
    unfold Hid; omega
  have HGot : Hid (Got w5 (.slice fa G.length fc) (.slice na (nodesOf F2).length nc) (.slice pa (flat F2).length pc) G Y) := by
    have hs35 : Same w3 w5 := HSS4.out.trans hs5 (fun _ h => h.elim)
    refine ⟨by rw [HG3.out]; exact HF2.out, World.ownsRow.turned HO3.out hs35 (fun _ _ h => h), fun x hx => (HQ3.out x hx).turned hs35 (fun _ _ h => h), ?_, ?_⟩
    · have := World.ownsRow.turned HO4.out hs5 (fun _ _ h => h)
      rw [hNodes.out, List.length_map] at this ⊢
      exact this
    · have := ho5
      rw [hFlat.out] at this ⊢
      exact this
  have hNl : (nodesOf F2).length = Y.length := by rw [hNodes.out, List.length_map]
  have hPl : (flat F2).length = (flatF Y).length := by rw [hFlat.out]
  have hGl' : G.length = Y.length := hGl.out
  rw [hNl, hPl, hGl'] at HGot
  rw [hNl, hPl, hGl']
  have HS5 := Lib.hid (HS4.out.later hs5)
  clear hs5 ho5 hp5 hNl hPl hGl' HSS4 HO3 HO4 HQ3 HS3 HS2 HG3 HS4
  go_wp2_with fail
  refine (new_si (-5) _).mono ?_
  rintro e w6 ⟨bt, vt, rfl, h6⟩
  have H6 := Lib.hid h6
  clear h6
  have hyx : (Y.length : Int) = (X.length : Int) + 1 := by have := HYl.out; omega
  have HW5 := Lib.hid (show w5.heap.size ≤ w5.heap.size from Nat.le_refl _)
  obtain ⟨i0, hi0, hz0, hz1, hz2⟩ := info_parts Try.info3
  have HI := Lib.hid (And.intro hi0 (And.intro hz0 (And.intro hz1 hz2)))
  clear hi0 hz0 hz1 hz2
  go_wp2_with fail
  go_loopw [11, 12] (fun q i wr => ∃ k : Nat, k ≤ Y.length ∧ i = .int .i64 k ∧ ∃ m a c, q = .slice a m c ∧ Hid (m = (flatF (Y.take k)).length ∧ ∃ vt Ft, TI w5 wr bt vt Ft (.slice a m c) (flatF (Y.take k)) ∧ ((k = 0 ∧ Ft = [(rootFr (-5), .slice none 0 0)]) ∨ (0 < k ∧ Ft.map (·.1) = Y.take k)))) (fun _ i _ => Y.length - (intOf i).toNat)
  case atStart => exact ⟨0, Nat.zero_le _, rfl, 0, _, _, rfl, rfl, _, _, ⟨H6.out, World.ownsRow_nil _ _ _ _, fun j hj => by simp [Value.ownBlock] at hj⟩, .inl ⟨rfl, rfl⟩⟩
  case round =>
    obtain ⟨k, hk, rfl, m, qa, qc, rfl, HV⟩ := hrel
    obtain ⟨hm, vt2, Ft, hT, hFt⟩ := HV.out
    have HT := Lib.hid hT; have HFt := Lib.hid hFt; have HM := Lib.hid hm
    clear hT hFt HV hm
    by_cases hlt : k < Y.length
    · have HGr := Lib.hid (HGot.out.later HT.out.si.same)
      obtain ⟨gf, gn, pv, rfl, rfl, n0, d0, d1, d2, d3, hP⟩ := HGr.out.at_ rfl rfl k hlt
      have hK := HYL.out Y[k] (List.getElem_mem _)
      have hsum : Hid (m + Y[k].path.length ≤ 1048576) := by
        have h1 := flatF_take Y k hlt
        have h2 := flatF_take_le Y (k + 1)
        rw [h1, List.length_append] at h2
        have := HM.out
        unfold Hid; omega
      have hft : Hid (flatF (Y.take (k + 1)) = flatF (Y.take k) ++ Y[k].path) := flatF_take Y k hlt
      have hyt : Hid (Y.take (k + 1) = Y.take k ++ [Y[k]]) := List.take_succ_eq_append_getElem hlt
      obtain ⟨x, hx⟩ : ∃ x, x = Y[k] := ⟨_, rfl⟩
      rw [← hx] at n0 d0 d1 d2 hP hK hsum hft hyt
      have HXk := Lib.hid hx
      have HNq : ∀ nq, Same wr (wr.drewN nq) := fun nq => (Turned.refl _ _).drewN nq
      clear hx
      have HP := Lib.hid hP; have HK := Lib.hid hK
      obtain ⟨A, pc2, rfl, hsrc⟩ := pat_src hP
      have HSrc := Lib.hid hsrc
      clear hP hK hsrc
      have hk0 : (0 : Int) ≤ k := by omega
      have hk1 : (k : Int) < Y.length := by omega
      have hk2 : (k : Int) < (X.length : Int) + 1 := by omega
      have hsum' := hsum.out
      go_wp2_with fail
      go_quiet (fail)
      have hml : (flatF (Y.take k)).length = m := HM.out.symm
      have HO : Hid (wr.ownsRow 0 3 1 (.slice qa m qc) m (intVals (flatF (Y.take k)))) := by
        have := HT.out.own; rwa [hml] at this
      go_wp2_with (at_builtin; go_loud (refine wpList_append_src _ rfl _ _ 23 rfl 3 i0 _ 1 8 Try.underlying23 HI.out.1 HI.out.2.1 HI.out.2.2.1 HI.out.2.2.2 rfl ?g0 (.slice qa m qc) m (intVals (flatF (Y.take k))) rfl (by exact HO.out) A x.path.length pc2 (intVals x.path) rfl ?g1 ?g2 ?g3 ?g4 ?g5 ?_))
      case g0 => omega
      case g1 => simp [intVals]
      case g2 => exact HSrc.out
      case g3 => intro u hu; simp [intVals] at hu; obtain ⟨n, _, rfl⟩ := hu; rfl
      case g4 => unfold maxLen; omega
      case g5 => omega
      intro a' c' w' ho' hg' hat'
      have HT' : Hid (TI w5 w' bt vt2 Ft (.slice a' (m + x.path.length) c') (flatF (Y.take k) ++ x.path)) := by
        have hlen : (flatF (Y.take k) ++ x.path).length = m + x.path.length := by rw [List.length_append, hml]
        refine (HT.out.later (HNq nq)).app hg' ?_ hat'
        rw [hlen, intVals, List.map_append]; exact ho'
      clear ho' hg' hat' n0 d0 d1 d2 d3
      obtain ⟨gf2, gn2, pv2, e1, e2, n0, d0, d1, d2, d3, hP2⟩ := (HGot.out.later HT'.out.si.same).at_ rfl rfl k hlt
      obtain rfl : gf = gf2 := by simpa using e1
      rw [← HXk.out] at n0 d0 d1 d2 hP2
      have HP2 := Lib.hid hP2
      have HR2 := Lib.hid (PAt.rd hP2)
      obtain ⟨A2, pc3, rfl, _⟩ := pat_src hP2
      clear e1 e2 hP2 n0
      rcases HFt.out with ⟨rfl, rfl⟩ | ⟨hkp, hF⟩
      · simp only [Nat.zero_mul, Nat.zero_add] at d0 d1 d2 d3
        go_wp2_with fail
        refine (turn_any _ bt vt2 [] _ (by exact HT'.out.si.sp) (by simp) x _ (by exact HR2.out) HK.out).mono ?_
        rintro e w8 ⟨pv8, rfl, h8, ht8, hq8⟩
        have HN := Lib.hid (TI.turn (F := []) HT'.out h8 ht8 hq8)
        clear h8 ht8 hq8
        go_wp2_with fail
        refine ⟨⟨0 + 1, by omega, by go_num, m + x.path.length, a', c', rfl, ?_, vt2, [] ++ [(x, pv8)], ?_, .inr ⟨by omega, ?_⟩⟩, ?_⟩
        · rw [hft.out, List.length_append, hml]
        · rw [hft.out]; exact HN.out
        · rw [hyt.out]; simp
        · simp [intOf]; omega
      · have hF2 := Lib.hid hF
        have HFl : Hid ((Ft.length + 1) * 48 ≤ 140737488355328) := by
          have := congrArg List.length hF
          simp at this
          unfold Hid; omega
        clear hF
        go_wp2_with fail
        refine (push_any _ bt vt2 Ft HT'.out.si.sp x _ (by exact HR2.out) HK.out HFl.out).mono ?_
        rintro e w8 ⟨v8, pv8, rfl, h8, ht8, hv8, hq8⟩
        have HN := Lib.hid (HT'.out.push h8 ht8 hv8 hq8)
        clear h8 ht8 hv8 hq8
        go_wp2_with fail
        refine ⟨⟨k + 1, by omega, by go_num, m + x.path.length, a', c', rfl, ?_, v8, Ft ++ [(x, pv8)], ?_, .inr ⟨by omega, ?_⟩⟩, ?_⟩
        · rw [hft.out, List.length_append, hml]
        · rw [hft.out]; exact HN.out
        · rw [hyt.out]; rw [List.map_append, hF2.out]; rfl
        · simp [intOf]; omega
    · have hkk : k = Y.length := by omega
      subst hkk
      have hft : Hid (flatF (Y.take Y.length) = flatF Y) := by rw [List.take_length]; rfl
      have hmm : m = (flatF Y).length := HM.out.trans (by rw [hft.out])
      subst hmm
      have h1 := HT.out
      rw [hft.out] at h1
      have HT2 := Lib.hid h1
      have h2 : Hid (Ft.map (·.1) = Y) := by
        rcases HFt.out with ⟨h0, _⟩ | ⟨_, h⟩
        · exfalso; omega
        · rw [h, List.take_length]; rfl
      clear h1
      have HGr := Lib.hid (HGot.out.later HT.out.si.same)
      go_wp2_with fail
      refine (sameInts_any _ _ _ (flatF Y) (rd_whole HGr.out.pa) (rd_whole HT2.out.own) (by omega)).mono ?_
      rintro e w6 ⟨rfl, kd, rfl⟩
      have HT3 := Lib.hid (HT2.out.later ((Turned.refl _ _).drewN kd))
      have HG3 := Lib.hid (HGr.out.later ((Turned.refl _ _).drewN kd))
      have hFl3 : Hid (Ft.length = Y.length) := by have := congrArg List.length h2.out; simpa [Hid] using this
      have HB48 : Hid (Ft.length * 48 ≤ 140737488355328) := by have := hFl3.out; unfold Hid; omega
      have HL3 : Hid (∀ x ∈ Ft, x.1.path.length ≤ 17592186044416) := by
        intro x hx
        exact HYL.out x.1 (by rw [← h2.out]; exact List.mem_map_of_mem hx)
      have HS83 : Hid ((flat Ft).length * 8 ≤ 140737488355328) := by rw [flat_map Ft _ h2.out]; unfold Hid; omega
      go_wp2_with fail
      refine (frames_any _ bt vt2 Ft HT3.out.si.sp HB48.out HL3.out).mono ?_
      rintro e w7 ⟨f7, G7, rfl, hs7, hG7, ho7, hp7, hq7⟩
      have hg7 := World.ownsRow.turned ho7 (Turned.refl (fun _ => False) _) (fun _ _ h => h)
      have HF7 := FRd.of_own hg7 (fun x hx => PAt.rd (hq7 x hx).1)
      rw [hG7, h2.out] at HF7
      have HF7 := Lib.hid HF7
      have HG7 := Lib.hid (HG3.out.later hs7)
      have HT7 := Lib.hid (HT3.out.later hs7)
      have hG7l : Hid (G7.length = Y.length) := by have := congrArg List.length hG7; have h3 := hFl3.out; simp at this; unfold Hid; omega
      clear hs7 hG7 ho7 hp7 hq7 hg7
      go_wp2_with fail
      refine (sameFrames_any _ _ _ Y HF7.out (by have := FRd.of_own HG7.out.fr (fun x hx => PAt.rd (HG7.out.frp x hx)); rw [HG7.out.same] at this; exact this) (by omega) (fun x hx => by have := HYL.out x hx; omega)).mono ?_
      rintro e w8 ⟨rfl, hs8⟩
      have HT8 := Lib.hid (HT7.out.later hs8)
      have HG8 := Lib.hid (HG7.out.later hs8)
      clear hs8
      go_wp2_with fail
      refine (path_any _ bt vt2 Ft HT8.out.si.sp HB48.out HL3.out HS83.out).mono ?_
      rintro e w9 ⟨p9, rfl, hs9, ho9, hp9⟩
      rw [flat_map Ft _ h2.out] at ho9
      obtain ⟨p9a, p9c, rfl, _, _⟩ := own_shape ho9
      have HR9 := Lib.hid (rd_whole ho9)
      have HG9 := Lib.hid (HG8.out.later hs9)
      have HT9 := Lib.hid (HT8.out.later hs9)
      clear hs9 ho9 hp9
      go_wp2_with fail
      refine (sameInts_any _ _ _ (flatF Y) (by exact HR9.out) (rd_whole HG9.out.pa) (by omega)).mono ?_
      rintro e w10 ⟨rfl, kd3, rfl⟩
      go_wp2_with fail
      all_goals go_ret
      all_goals exact ⟨rfl, (H1.out.trans (HS5.out.same.trans (HT9.out.si.same.drewN kd3) (fun _ h => h.elim)) (fun _ h => h.elim)).below (Nat.le_refl _) (fun _ h => h.elim)⟩
end Go.Proofs.Ythfhjopofpffgaa
