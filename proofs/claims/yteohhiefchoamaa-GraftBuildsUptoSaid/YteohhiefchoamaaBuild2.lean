/-
  Build, where there is no such rule, or no such node; Build as a whole.
-/
import Derived.Test.YteohhiefchoamaaBuild
namespace Go.Proofs.Yteohhiefchoamaa
open Go.RowKit

theorem build_rule (w : World) (a1 a2 : Addr) (va vb vc rv : Value) (S : Nat → Prop) (R : List (List PartD)) (hR : RightsAt w S rv R) (rule node : Int) (h : rule < 0 ∨ (R.length : Int) ≤ rule) :
    Calls Try.prog 13 #[.pointer (some a1), cv va vb vc rv, .pointer (some a2), .int .i64 rule, .int .i64 node] w fun e w' => ∃ ev, e = .returned (.tuple #[.int .i64 0, ev]) ∧ FaultV w w' ev 132 0 91 ∧ Same w w' := by
  obtain ⟨rA, rc, rfl, _⟩ := hR
  have hB : Blk ((w.alloc (.cells #[va, vb, vc, .slice rA R.length rc] 39)).alloc (.cells #[.int .i64 132, .int .i64 0, .iface 63 (.int .i64 91)] 106)) (w.heap.size + 1) 106 #[.int .i64 132, .int .i64 0, whyV 91] := by
    have := Blk.new (w.alloc (.cells #[va, vb, vc, .slice rA R.length rc] 39)) 106 #[.int .i64 132, .int .i64 0, .iface 63 (.int .i64 91)]
    simpa [whyV] using this
  have HB := Lib.hid hB
  clear hB
  by_cases h0 : rule < 0
  · clear h
    go_enter Try.func13, Try.ntmps13
    go_wp2_with fail
    go_ret2
    exact ⟨_, rfl, ⟨w.heap.size + 1, rfl, HB.out, by omega⟩, ((Turned.refl _ _).alloc _).alloc _⟩
  · have h1 : rule ≥ (R.length : Int) := by omega
    clear h
    go_enter Try.func13, Try.ntmps13
    go_wp2_with fail
    go_ret2
    exact ⟨_, rfl, ⟨w.heap.size + 1, rfl, HB.out, by omega⟩, ((Turned.refl _ _).alloc _).alloc _⟩
theorem build_node (w : World) (a1 : Addr) (b : Nat) (room : Int) (v : Value) (N : List NV) (h : HeapAt w b room v N) (va vb vc rv : Value) (S : Nat → Prop) (R : List (List PartD)) (hR : RightsAt w S rv R) (k : Nat) (hk : k < R.length) (node : Int) (hn : node < 0 ∨ (N.length : Int) ≤ node) :
    Calls Try.prog 13 #[.pointer (some a1), cv va vb vc rv, .pointer (some ⟨b, 0, none⟩), .int .i64 k, .int .i64 node] w fun e w' => ∃ ev, e = .returned (.tuple #[.int .i64 0, ev]) ∧ FaultV w w' ev 132 0 112 ∧ Same w w' := by
  obtain ⟨rA, rc, rfl, _⟩ := hR
  have H := Lib.hid h
  have hk2 : ¬ (k : Int) ≥ R.length := by omega
  have hk3 : ¬ (k : Int) < 0 := by omega
  have hB : Blk ((w.alloc (.cells #[va, vb, vc, .slice rA R.length rc] 39)).alloc (.cells #[.int .i64 132, .int .i64 0, .iface 63 (.int .i64 112)] 106)) (w.heap.size + 1) 106 #[.int .i64 132, .int .i64 0, whyV 112] := by
    have := Blk.new (w.alloc (.cells #[va, vb, vc, .slice rA R.length rc] 39)) 106 #[.int .i64 132, .int .i64 0, .iface 63 (.int .i64 112)]
    simpa [whyV] using this
  have HB := Lib.hid hB
  clear hB h
  go_enter Try.func13, Try.ntmps13
  go_wp2_with fail
  refine (resolve_bad _ b room v N (by exact H.out.same ((Turned.refl _ _).alloc _)) node hn).mono ?_
  rintro e w1 ⟨rfl, rfl⟩
  go_wp2_with fail
  go_ret2
  exact ⟨_, rfl, ⟨w.heap.size + 1, rfl, HB.out, by omega⟩, ((Turned.refl _ _).alloc _).alloc _⟩

/-- What Build says of whatever rule and node: a fault; or what to lay. -/
noncomputable def buildBad (L : List Sym) (N : List Nd) (room : Int) (R : List (List PartD)) (rule node : Int) : Option (Int × Int × Int) :=
  if rule < 0 ∨ (R.length : Int) ≤ rule then some (132, 0, 91)
  else if node < 0 ∨ (N.length : Int) ≤ node then some (132, 0, 112)
  else rightBad L N room (resF N node.toNat) (R.getD rule.toNat [])
noncomputable def buildP (N : List Nd) (R : List (List PartD)) (rule node : Int) : List (Int × Int) := itemsF N (resF N node.toNat) (R.getD rule.toNat [])

theorem buildx (w : World) (bs bm : Nat) (vs : Value) (L : List Sym) (hs : SigAt w bs bm vs L) (hL : ∀ x ∈ L, 0 ≤ x.arity ∧ x.arity ≤ 6) (b : Nat) (room : Int) (v : Value) (N : List NV) (h : HeapAt w b room v N) (hr : Ranked (N.map (·.1))) (hr4 : room ≤ 4000) (hNr : (N.length : Int) ≤ room) (hA6 : ∀ x ∈ N, x.1.args.length ≤ 17592186044416)
    (va vb vc rv : Value) (R : List (List PartD)) (hR : RightsAt w (hfoot b v) rv R) (hlen : ∀ Q ∈ R, Q.length ≤ 4398046511104) (hlen2 : ∀ Q ∈ R, ∀ q ∈ Q, q.path.length ≤ 17592186044416) (rule node : Int) :
    Calls Try.prog 13 #[.pointer (some ⟨bs, 0, none⟩), cv va vb vc rv, .pointer (some ⟨b, 0, none⟩), .int .i64 rule, .int .i64 node] w fun e w' =>
      (∃ c i y ev, buildBad L (N.map (·.1)) room R rule node = some (c, i, y) ∧ e = .returned (.tuple #[.int .i64 0, ev]) ∧ FaultV w w' ev c i y ∧ Same w w') ∨
      (∃ v' M a, buildBad L (N.map (·.1)) room R rule node = none ∧ (layF L N.length (buildP (N.map (·.1)) R rule node)).1 = [a] ∧ e = .returned (.tuple #[.int .i64 a, .nilIface]) ∧ HeapAt w' b room v' (N ++ M) ∧ M.map (·.1) = (layF L N.length (buildP (N.map (·.1)) R rule node)).2 ∧ Turned (hfoot b v) w w' ∧ (v'.ownBlock = v.ownBlock ∨ ∃ j, v'.ownBlock = some j ∧ w.heap.size ≤ j)) := by
  by_cases h1 : rule < 0 ∨ (R.length : Int) ≤ rule
  · refine (build_rule w _ _ va vb vc rv _ R hR rule node h1).mono ?_
    rintro e w' ⟨ev, rfl, hf, hs2⟩
    exact .inl ⟨132, 0, 91, ev, by unfold buildBad; rw [if_pos h1], rfl, hf, hs2⟩
  · obtain ⟨k, rfl⟩ : ∃ k : Nat, rule = (k : Int) := ⟨rule.toNat, by omega⟩
    have hk : k < R.length := by omega
    by_cases h2 : node < 0 ∨ (N.length : Int) ≤ node
    · refine (build_node w _ b room v N h va vb vc rv _ R hR k hk node h2).mono ?_
      rintro e w' ⟨ev, rfl, hf, hs2⟩
      exact .inl ⟨132, 0, 112, ev, by unfold buildBad; rw [if_neg h1, if_pos (by simpa using h2)], rfl, hf, hs2⟩
    · obtain ⟨n, rfl⟩ : ∃ n : Nat, node = (n : Int) := ⟨node.toNat, by omega⟩
      have hn : n < N.length := by omega
      obtain ⟨nd0, hres⟩ := hr.res n (by simpa using hn)
      have hRk : R.getD k [] = R[k] := by simp [List.getD, hk]
      have e1 : buildBad L (N.map (·.1)) room R (k : Int) (n : Int) = rightBad L (N.map (·.1)) room nd0 R[k] := by
        unfold buildBad
        rw [if_neg h1, if_neg (by simpa using h2), Int.toNat_natCast, Int.toNat_natCast, resF_eq hres, hRk]
      have e2 : buildP (N.map (·.1)) R (k : Int) (n : Int) = itemsF (N.map (·.1)) nd0 R[k] := by
        unfold buildP
        rw [Int.toNat_natCast, Int.toNat_natCast, resF_eq hres, hRk]
      rw [e1, e2]
      exact build_any w bs bm vs L hs hL b room v N h hr hr4 hNr hA6 va vb vc rv R hR hlen hlen2 k n hk hn nd0 hres
end Go.Proofs.Yteohhiefchoamaa
