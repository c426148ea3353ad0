/-
  The walks of Head, Arg.
-/
import Derived.Test.YteohhiefchoamaaSight
namespace Go.Proofs.Yteohhiefchoamaa
open Go.RowKit

theorem nodeCells (nd : Nd) (q : Nat) : (nval nd (.slice (some ⟨q, 0, none⟩) nd.args.length nd.args.length)) = .agg #[.int .i64 nd.sym, .slice (some ⟨q, 0, none⟩) nd.args.length nd.args.length, .int .i64 nd.mark, .bool nd.points, .int .i64 nd.to] := rfl

set_option maxHeartbeats 2000000 in
theorem head_some (w : World) (b : Nat) (room : Int) (v : Value) (N : List NV) (h : HeapAt w b room v N) (hr : Ranked (N.map (·.1))) (a : Nat) (ha : a < N.length) (hl : ∀ x ∈ N, x.1.args.length ≤ 17592186044416) :
    Calls Try.prog 20 #[sv (some ⟨b, 0, none⟩), .int .i64 a] w fun e w' => ∃ (c : Nat) (nd : Nd), Res (N.map (·.1)) a c ∧ (N.map (·.1))[c]? = some nd ∧ e = .returned (.tuple #[.int .i64 nd.sym, .bool (nd.mark != 0)]) ∧ Same w w' := by
  have H := Lib.hid h; have HA := Lib.hid ha; have HR := Lib.hid hr; have HL := Lib.hid hl
  clear h ha hr hl
  show Calls Try.prog 20 #[.agg #[.pointer (some ⟨b, 0, none⟩)], .int .i64 a] w _
  go_enter Try.func20, Try.ntmps20
  go_wp2_with fail
  refine (node_some _ b room v N (by exact H.out.same ((Turned.refl _ _).alloc _)) HR.out a HA.out HL.out).mono ?_
  rintro e w1 ⟨c, nd, g, hres, hnd, rfl, hB, hs, hg⟩
  have HRes := Lib.hid hres; have HN := Lib.hid hnd
  have HS : Hid (Same w w1) := ((Turned.refl _ _).alloc _).trans hs (fun _ h => h.elim)
  clear hres hnd hB hs hg
  go_wp2_with fail
  go_quiet (fail)
  go_wp2_with fail
  go_ret2
  exact ⟨c, nd, HRes.out, HN.out, by simp [bne], (HS.out.alloc _).drewN _⟩

theorem head_none (w : World) (p : Option Addr) (a : Int) (hR : ∀ w0, Same w w0 → Calls Try.prog 47 #[.pointer p, .int .i64 a] w0 fun e w' => (∃ k, k ≠ 0 ∧ e = .returned (.tuple #[.int .i64 0, .int .i64 k])) ∧ w0 = w') :
    Calls Try.prog 20 #[sv p, .int .i64 a] w fun e w' => e = .returned (.tuple #[.int .i64 (-1), .bool false]) ∧ Same w w' := by
  have HR := Lib.hid hR
  clear hR
  show Calls Try.prog 20 #[.agg #[.pointer p], .int .i64 a] w _
  go_enter Try.func20, Try.ntmps20
  go_wp2_with fail
  refine (node_none _ p a (fun w0 h0 => HR.out w0 (((Turned.refl _ _).alloc _).trans h0 (fun _ h => h.elim)))).mono ?_
  rintro e w1 ⟨rfl, hs⟩
  have HS : Hid (Same w w1) := ((Turned.refl _ _).alloc _).trans hs (fun _ h => h.elim)
  clear hs
  go_wp2_with fail
  go_ret2
  exact ⟨rfl, HS.out.alloc _⟩

theorem arg_none (w : World) (p : Option Addr) (a n : Int) (hR : ∀ w0, Same w w0 → Calls Try.prog 47 #[.pointer p, .int .i64 a] w0 fun e w' => (∃ k, k ≠ 0 ∧ e = .returned (.tuple #[.int .i64 0, .int .i64 k])) ∧ w0 = w') :
    Calls Try.prog 22 #[sv p, .int .i64 a, .int .i64 n] w fun e w' => e = .returned (.int .i64 (-1)) ∧ Same w w' := by
  have HR := Lib.hid hR
  clear hR
  show Calls Try.prog 22 #[.agg #[.pointer p], .int .i64 a, .int .i64 n] w _
  go_enter Try.func22, Try.ntmps22
  go_wp2_with fail
  refine (node_none _ p a (fun w0 h0 => HR.out w0 (((Turned.refl _ _).alloc _).trans h0 (fun _ h => h.elim)))).mono ?_
  rintro e w1 ⟨rfl, hs⟩
  have HS : Hid (Same w w1) := ((Turned.refl _ _).alloc _).trans hs (fun _ h => h.elim)
  clear hs
  go_wp2_with fail
  go_ret
  exact ⟨rfl, HS.out.alloc _⟩

set_option maxHeartbeats 2000000 in
/-- Beyond the node's arguments. -/
theorem arg_out (w : World) (b : Nat) (room : Int) (v : Value) (N : List NV) (h : HeapAt w b room v N) (hr : Ranked (N.map (·.1))) (a : Nat) (ha : a < N.length) (hl : ∀ x ∈ N, x.1.args.length ≤ 17592186044416) (n : Int) (hn : ∀ c nd, Res (N.map (·.1)) a c → (N.map (·.1))[c]? = some nd → n < 0 ∨ (nd.args.length : Int) ≤ n) :
    Calls Try.prog 22 #[sv (some ⟨b, 0, none⟩), .int .i64 a, .int .i64 n] w fun e w' => e = .returned (.int .i64 (-1)) ∧ Same w w' := by
  have H := Lib.hid h; have HA := Lib.hid ha; have HR := Lib.hid hr; have HL := Lib.hid hl; have HNN := Lib.hid hn
  clear h ha hr hl hn
  show Calls Try.prog 22 #[.agg #[.pointer (some ⟨b, 0, none⟩)], .int .i64 a, .int .i64 n] w _
  go_enter Try.func22, Try.ntmps22
  go_wp2_with fail
  refine (node_some _ b room v N (by exact H.out.same ((Turned.refl _ _).alloc _)) HR.out a HA.out HL.out).mono ?_
  rintro e w1 ⟨c, nd, g, hres, hnd, rfl, hB, hs, hg⟩
  have hor := HNN.out c nd hres hnd
  have HS : Hid (Same w w1) := ((Turned.refl _ _).alloc _).trans hs (fun _ h => h.elim)
  clear hres hnd hB hs hg
  by_cases h0 : n < 0
  · clear hor
    go_wp2_with fail
    go_ret
    exact ⟨rfl, HS.out.alloc _⟩
  · have h1 : (nd.args.length : Int) ≤ n := by omega
    have h2 : ¬ n < (nd.args.length : Int) := by omega
    clear hor
    go_wp2_with fail
    go_ret
    exact ⟨rfl, HS.out.alloc _⟩

theorem resolve_at (w : World) (b : Nat) (room : Int) (v : Value) (N : List NV) (h : HeapAt w b room v N) (hr : Ranked (N.map (·.1))) (a c : Nat) (hc : Res (N.map (·.1)) a c) :
    Calls Try.prog 47 #[.pointer (some ⟨b, 0, none⟩), .int .i64 a] w fun e w' => e = .returned (.tuple #[.int .i64 c, .int .i64 0]) ∧ w = w' := by
  have ha : a < N.length := by simpa using hc.from_lt
  refine (resolve_some w b room v N h hr a ha).mono ?_
  rintro e w' ⟨d, rfl, hd, rfl⟩
  rw [hc.one hd]
  exact ⟨rfl, rfl⟩

set_option maxHeartbeats 2000000 in
/-- An argument: the application behind it. -/
theorem arg_some (w : World) (b : Nat) (room : Int) (v : Value) (N : List NV) (h : HeapAt w b room v N) (hr : Ranked (N.map (·.1))) (a : Nat) (ha : a < N.length) (hl : ∀ x ∈ N, x.1.args.length ≤ 17592186044416) (n : Nat) (c : Nat) (nd : Nd) (t : Nat) (hres : Res (N.map (·.1)) a c) (hnd : (N.map (·.1))[c]? = some nd) (hn : nd.args[n]? = some (t : Int)) (ht : t < N.length) :
    Calls Try.prog 22 #[sv (some ⟨b, 0, none⟩), .int .i64 a, .int .i64 n] w fun e w' => ∃ d : Nat, Res (N.map (·.1)) t d ∧ e = .returned (.int .i64 d) ∧ Same w w' := by
  have H := Lib.hid h; have HA := Lib.hid ha; have HR := Lib.hid hr; have HL := Lib.hid hl; have HRes := Lib.hid hres; have HN := Lib.hid hnd; have HT := Lib.hid ht
  obtain ⟨hn1, hn2⟩ := List.getElem?_eq_some_iff.1 hn
  have HNn : Hid ((nInts nd.args)[n]? = some (.int .i64 t)) := by simp [Hid, nInts, hn]
  have hn3 : (n : Int) < nd.args.length := by omega
  have hn4 : ¬ (n : Int) < 0 := by omega
  have hn5 : (0 : Int) ≤ n := by omega
  clear h ha hr hl hres hnd hn hn2 ht
  show Calls Try.prog 22 #[.agg #[.pointer (some ⟨b, 0, none⟩)], .int .i64 a, .int .i64 n] w _
  go_enter Try.func22, Try.ntmps22
  go_wp2_with fail
  refine (node_some _ b room v N (by exact H.out.same ((Turned.refl _ _).alloc _)) HR.out a HA.out HL.out).mono ?_
  rintro e w1 ⟨c', nd', g, hres', hnd', rfl, hB, hs, hg⟩
  obtain rfl : c = c' := HRes.out.one hres'
  obtain rfl : nd = nd' := by have := HN.out.symm.trans hnd'; simpa using this
  have hS0 : Same w w1 := ((Turned.refl _ _).alloc _).trans hs (fun _ h => h.elim)
  have hX : Blk w1 w.heap.size 56 #[.pointer (some ⟨b, 0, none⟩)] := (Blk.new w 56 _).turned hs (fun h => h)
  have x0 : w1.cell? ⟨w.heap.size, 0, none⟩ = some (.pointer (some ⟨b, 0, none⟩)) := (hX.cell 0).trans rfl
  have xl := hX.lt
  have a0 : w1.cell? ⟨g, n, none⟩ = some (.int .i64 t) := by rw [hB.cell n, List.getElem?_toArray]; exact HNn.out
  have gl := hB.lt
  have HS : Hid (Same w w1) := hS0
  have HH : Hid (HeapAt w1 b room v N) := H.out.same hS0
  obtain ⟨d, hd⟩ := HR.out.res t (by simpa using HT.out)
  have HD := Lib.hid hd
  clear hres' hnd' hB hs hg hS0 hX hd
  go_wp2_with fail
  go_quiet ((go_at_call 47; exact Calls.quiet_of_same ((resolve_at _ b room v N (by exact HH.out.same (((Turned.refl _ _).alloc _).drewN _)) HR.out t d HD.out).mono (fun _ _ h => ⟨h.1, h.2.symm⟩))))
  go_wp2_with fail
  go_ret
  exact ⟨d, HD.out, rfl, (HS.out.alloc _).drewN _⟩
end Go.Proofs.Yteohhiefchoamaa
