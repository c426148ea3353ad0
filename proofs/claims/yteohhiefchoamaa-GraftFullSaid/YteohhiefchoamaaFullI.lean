/-
  GraftFull: what stands between the calls; Build of the two right sides.
-/
import Derived.Test.YteohhiefchoamaaFullLaw
namespace Go.Proofs.Yteohhiefchoamaa
open Go.RowKit

def Out (lo hi : Nat) : Nat → Prop := fun k => k < lo ∨ hi ≤ k
/-- The signature, the heap and the parts. -/
structure FullI (w wx : World) (bs bm : Nat) (vs : Value) (L : List Sym) (b : Nat) (r : Int) (v : Value) (N : List NV) (pv : Value) (t : List Int) (lo hi : Nat) : Prop where
  sh : SH w wx bs bm vs L b r v N
  ft : ∀ k, hfoot b v k → Out lo hi k
  ps : PartsAt wx (Out lo hi) pv (rQ t)
  hs : hi ≤ wx.heap.size
theorem FullI.later {w wx w' : World} {bs bm : Nat} {vs : Value} {L : List Sym} {b : Nat} {r : Int} {v : Value} {N : List NV} {pv : Value} {t : List Int} {lo hi : Nat} (h : FullI w wx bs bm vs L b r v N pv t lo hi) (ht : Same wx w') : FullI w w' bs bm vs L b r v N pv t lo hi :=
  ⟨h.sh.later ht, h.ft, h.ps.same ht, Nat.le_trans h.hs ht.size⟩
theorem FullI.step {w wx w' : World} {bs bm : Nat} {vs : Value} {L : List Sym} {b : Nat} {r : Int} {v v' : Value} {N N' : List NV} {pv : Value} {t : List Int} {lo hi : Nat} (h : FullI w wx bs bm vs L b r v N pv t lo hi) (hh : HeapAt w' b r v' N') (ht : Turned (hfoot b v) wx w') (hv : v'.ownBlock = v.ownBlock ∨ ∃ k, v'.ownBlock = some k ∧ wx.heap.size ≤ k) : FullI w w' bs bm vs L b r v' N' pv t lo hi := by
  refine ⟨h.sh.step hh ht hv, fun k hk => ?_, h.ps.keep (ht.mono h.ft), Nat.le_trans h.hs ht.size⟩
  rcases hfoot_old hv k hk with h1 | h1
  · exact h.ft k h1
  · exact .inr (Nat.le_trans h.hs h1)
/-- What stands behind the first Build. -/
structure FullC (w wx : World) (bs bm : Nat) (vs : Value) (L : List Sym) (b : Nat) (r : Nat) (pv : Value) (t : List Int) (lo hi n : Nat) (less : Bool) (ev : Value) (q : Nat) : Prop where
  ex : ∃ v N M, FullI w wx bs bm vs L b r v N pv t lo hi ∧ N.map (·.1) = mkN n ++ M ∧ Ranked (mkN n ++ M) ∧ (∀ x ∈ N, x.1.args.length ≤ 17592186044416) ∧
    if less = true then (∃ e, ev = .iface 104 e) ∧ Blk wx q 80 #[.int .i64 131, .int .i64 0, .int .i64 111, .bool false, .int .i64 0, .int .i64 0] ∧ N.length = n else ev = .nilIface ∧ Blk wx q 80 #[.int .i64 0, .int .i64 0, .int .i64 0, .bool false, .int .i64 0, .int .i64 0] ∧ N.length = r

theorem full_build {w wx : World} {bs bm : Nat} {vs : Value} {L : List Sym} {b : Nat} {r : Int} {v : Value} {N : List NV} {pv : Value} {t : List Int} {lo hi : Nat} (h : FullI w wx bs bm vs L b r v N pv t lo hi) (hL : ∀ x ∈ L, 0 ≤ x.arity ∧ x.arity ≤ 6) (hr : Ranked (N.map (·.1))) (hr4 : r ≤ 4000) (hNr : (N.length : Int) ≤ r) (hA6 : ∀ x ∈ N, x.1.args.length ≤ 17592186044416) (ht : t.length ≤ 1000) (rule node : Int) :
    Calls Try.prog 13 #[.pointer (some ⟨bs, 0, none⟩), .agg #[.slice none 0 0, .slice none 0 0, .slice none 0 0, .slice (some ⟨wx.heap.size + 1, 0, none⟩) 2 2], .pointer (some ⟨b, 0, none⟩), .int .i64 rule, .int .i64 node]
      ((wx.alloc (.cells #[.int .i64 (-1), .slice none 0 0] 78)).alloc (.cells #[pv, .slice (some ⟨wx.heap.size, 0, none⟩) 1 1] 76)) fun e w' =>
      (∃ c i y ev, buildBad L (N.map (·.1)) r (rR t) rule node = some (c, i, y) ∧ e = .returned (.tuple #[.int .i64 0, ev]) ∧ (∃ q, ev = .iface 104 (.pointer (some ⟨q, 0, none⟩)) ∧ Blk w' q 106 #[.int .i64 c, .int .i64 i, whyV y] ∧ wx.heap.size ≤ q) ∧ FullI w w' bs bm vs L b r v N pv t lo hi ∧ Same wx w') ∨
      (∃ v' M a, buildBad L (N.map (·.1)) r (rR t) rule node = none ∧ (layF L N.length (buildP (N.map (·.1)) (rR t) rule node)).1 = [a] ∧ e = .returned (.tuple #[.int .i64 a, .nilIface]) ∧ FullI w w' bs bm vs L b r v' (N ++ M) pv t lo hi ∧ M.map (·.1) = (layF L N.length (buildP (N.map (·.1)) (rR t) rule node)).2 ∧ Turned (hfoot b v) wx w') := by
  have hs : Same wx ((wx.alloc (.cells #[.int .i64 (-1), .slice none 0 0] 78)).alloc (.cells #[pv, .slice (some ⟨wx.heap.size, 0, none⟩) 1 1] 76)) := ((Turned.refl _ _).alloc _).alloc _
  have h2 := h.later hs
  have hR := rights_at (h.ps.weak h.ft) h.sh.hp.flt
  have hlen : ∀ Q ∈ rR t, Q.length ≤ 4398046511104 := by
    intro Q hQ
    simp only [rR, List.mem_cons, List.not_mem_nil, or_false] at hQ
    rcases hQ with rfl | rfl
    · simp [rQ]; omega
    · simp
  have hlen2 : ∀ Q ∈ rR t, ∀ q ∈ Q, q.path.length ≤ 17592186044416 := by
    intro Q hQ q hq
    simp only [rR, List.mem_cons, List.not_mem_nil, or_false] at hQ
    rcases hQ with rfl | rfl
    · obtain ⟨n, _, rfl⟩ := List.mem_map.1 hq
      simp
    · obtain rfl : q = _ := by simpa using hq
      simp
  refine (buildx _ bs bm vs L h2.sh.sig hL b r v N h2.sh.hp hr hr4 hNr hA6 _ _ _ _ (rR t) hR hlen hlen2 rule node).mono ?_
  rintro e w' (⟨c, i, y, ev, hb, he, ⟨q, hq1, hq2, hq3⟩, hs3⟩ | ⟨v', M, a, hb, ha, he, hh, hM, ht3, hv⟩)
  · exact .inl ⟨c, i, y, ev, hb, he, ⟨q, hq1, hq2, Nat.le_trans hs.size hq3⟩, h2.later hs3, hs.trans hs3 (fun _ h => h.elim)⟩
  · exact .inr ⟨v', M, a, hb, ha, he, h2.step hh ht3 hv, hM, (hs.mono (fun _ h => h.elim)).trans ht3 (fun i hi => .inl hi)⟩
theorem FullI.load {w wx : World} {bs bm : Nat} {vs : Value} {L : List Sym} {b : Nat} {r : Int} {v : Value} {N : List NV} {pv tv : Value} {t : List Int} {lo hi : Nat} (h : FullI w wx bs bm vs L b r v N pv t lo hi) (hR : Rd w tv t) : RdS wx (hfoot b v) tv t := by
  obtain ⟨A, c, rfl, h1⟩ := hR.same_ h.sh.same
  refine ⟨A, c, rfl, fun h0 => ?_⟩
  obtain ⟨bl, off, rfl, hc⟩ := h1 h0
  refine ⟨bl, off, rfl, fun hf => ?_, hc⟩
  obtain ⟨A', c', e', h1'⟩ := hR
  obtain ⟨bl', off', e1', hc'⟩ := h1' h0
  have h2 := World.block_lt_of_cell? _ _ (hc' 0 h0)
  have h3 := h.sh.new _ hf
  rw [e1'] at e'
  injection e' with h4
  injection h4 with h4
  injection h4 with h4
  simp only at h2
  omega
theorem mkN_args {N : List NV} {n : Nat} (h : N.map (·.1) = mkN n) : ∀ x ∈ N, x.1.args.length ≤ 17592186044416 := by
  intro x hx
  have h1 : x.1 ∈ mkN n := by rw [← h]; exact List.mem_map_of_mem hx
  obtain ⟨i, _, e⟩ := List.mem_map.1 h1
  rw [← e]; simp
end Go.Proofs.Yteohhiefchoamaa
