/-
  The walks of Of, node, Head, Arg.
-/
import Derived.Test.YteohhiefchoamaaLook
import Derived.BigQuiet
namespace Go.Proofs.Yteohhiefchoamaa
open Go.RowKit

abbrev sv (p : Option Addr) : Value := .agg #[.pointer p]
theorem of_any (w : World) (p : Option Addr) : Calls Try.prog 19 #[.pointer p] w fun e w' => e = .returned (sv p) ∧ Same w w' := by
  go_enter Try.func19, Try.ntmps19
  go_wp2
  refine bodyPost_ret (v := sv p) ?_ rfl ⟨rfl, (Turned.refl _ _).alloc _⟩
  simp [results, Try.results19, go_sem]

theorem hat_at (w : World) (b : Nat) (room : Int) (v : Value) (N : List NV) (h : HeapAt w b room v N) (a : Nat) (x : Nd) (hx : (N.map (·.1))[a]? = some x) (hl : x.args.length ≤ 17592186044416) :
    Calls Try.prog 40 #[.pointer (some ⟨b, 0, none⟩), .int .i64 a] w fun e w' => ∃ g, e = .returned (.tuple #[nval x (.slice (some ⟨g, 0, none⟩) x.args.length x.args.length), .int .i64 0]) ∧ Blk w' g 3 (nInts x.args).toArray ∧ Same w w' ∧ w.heap.size ≤ g := by
  obtain ⟨ha, rfl⟩ := List.getElem?_eq_some_iff.1 hx
  simp only [List.getElem_map] at hl ⊢
  exact hat_some w b room v N h a (by simpa using ha) hl
abbrev zcells : Array Value := #[.int .i64 0, .slice none 0 0, .int .i64 0, .bool false, .int .i64 0]

theorem node_end {w w0 w1 : World} {q : Nat} {nd : Nd} (h01 : Same w w0) (hz : Blk w0 (w.heap.size + 1) 53 zcells) (hs : Same w0 w1) (hB : Blk w1 q 3 (nInts nd.args).toArray) (hq : w0.heap.size ≤ q) (h02 : w.heap.size + 2 ≤ w0.heap.size) :
    Blk (w1.alloc (.cells #[.int .i64 nd.sym, .slice (some ⟨q, 0, none⟩) nd.args.length nd.args.length, .int .i64 nd.mark, .bool nd.points, .int .i64 nd.to] 53)) (w.heap.size + 1) 53 zcells ∧
    ∀ o, ∀ n1 n2 n3 n4 n5 : Value, Hid (Blk ((((((w1.setCell ⟨w.heap.size + 1, 0, none⟩ n1).setCell ⟨w.heap.size + 1, 1, none⟩ n2).setCell ⟨w.heap.size + 1, 2, none⟩ n3).setCell ⟨w.heap.size + 1, 3, none⟩ n4).setCell ⟨w.heap.size + 1, 4, none⟩ n5).alloc o) (w.heap.size + 1) 53 #[n1, n2, n3, n4, n5] ∧
      Blk ((((((w1.setCell ⟨w.heap.size + 1, 0, none⟩ n1).setCell ⟨w.heap.size + 1, 1, none⟩ n2).setCell ⟨w.heap.size + 1, 2, none⟩ n3).setCell ⟨w.heap.size + 1, 3, none⟩ n4).setCell ⟨w.heap.size + 1, 4, none⟩ n5).alloc o) q 3 (nInts nd.args).toArray ∧
      Same w ((((((w1.setCell ⟨w.heap.size + 1, 0, none⟩ n1).setCell ⟨w.heap.size + 1, 1, none⟩ n2).setCell ⟨w.heap.size + 1, 2, none⟩ n3).setCell ⟨w.heap.size + 1, 3, none⟩ n4).setCell ⟨w.heap.size + 1, 4, none⟩ n5).alloc o)) := by
  refine ⟨(hz.turned hs (fun h => h)).alloc _, fun o n1 n2 n3 n4 n5 => ?_⟩
  have ht := (set5_turned w1 (w.heap.size + 1) n1 n2 n3 n4 n5).alloc o
  exact ⟨(set5_blk (hz.turned hs (fun h => h)) _ _ _ _ _).alloc o, hB.turned ht (by omega), (h01.trans hs (fun _ h => h.elim)).trans ht (fun i hi => .inr (by omega))⟩

set_option maxHeartbeats 2000000 in
theorem node_some (w : World) (b : Nat) (room : Int) (v : Value) (N : List NV) (h : HeapAt w b room v N) (hr : Ranked (N.map (·.1))) (a : Nat) (ha : a < N.length) (hl : ∀ x ∈ N, x.1.args.length ≤ 17592186044416) :
    Calls Try.prog 56 #[sv (some ⟨b, 0, none⟩), .int .i64 a] w fun e w' => ∃ (c : Nat) (nd : Nd) (g : Nat), Res (N.map (·.1)) a c ∧ (N.map (·.1))[c]? = some nd ∧ e = .returned (.tuple #[nval nd (.slice (some ⟨g, 0, none⟩) nd.args.length nd.args.length), .bool true]) ∧ Blk w' g 3 (nInts nd.args).toArray ∧ Same w w' ∧ w.heap.size ≤ g := by
  have H := Lib.hid h; have HA := Lib.hid ha; have HR := Lib.hid hr; have HL := Lib.hid hl
  have hlt := h.blk.lt
  clear h ha hr hl
  show Calls Try.prog 56 #[.agg #[.pointer (some ⟨b, 0, none⟩)], .int .i64 a] w _
  go_enter Try.func56, Try.ntmps56
  go_wp2_with fail
  have S0 : Same w ((w.alloc (.cells #[.pointer (some ⟨b, 0, none⟩)] 56)).alloc (.cells zcells 53)) := ((Turned.refl _ _).alloc _).alloc _
  have HS0 := Lib.hid S0
  have HB0 : Hid (Blk ((w.alloc (.cells #[.pointer (some ⟨b, 0, none⟩)] 56)).alloc (.cells zcells 53)) (w.heap.size + 1) 53 zcells) := by
    have := Blk.new (w.alloc (.cells #[.pointer (some ⟨b, 0, none⟩)] 56)) 53 zcells
    simpa [Hid] using this
  have hX0 : Blk ((w.alloc (.cells #[.pointer (some ⟨b, 0, none⟩)] 56)).alloc (.cells zcells 53)) w.heap.size 56 #[.pointer (some ⟨b, 0, none⟩)] := (Blk.new w 56 _).alloc _
  have x0 := hX0.cell 0
  simp at x0
  have HX0 := Lib.hid hX0
  have HSz : Hid (w.heap.size + 2 ≤ ((w.alloc (.cells #[.pointer (some ⟨b, 0, none⟩)] 56)).alloc (.cells zcells 53)).heap.size) := by simp [Hid]
  clear S0 hX0 x0
  generalize ((w.alloc (.cells #[.pointer (some ⟨b, 0, none⟩)] 56)).alloc (.cells zcells 53)) = w0 at HS0 HB0 HX0 HSz ⊢
  have x0 : w0.cell? ⟨w.heap.size, 0, none⟩ = some (.pointer (some ⟨b, 0, none⟩)) := (HX0.out.cell 0).trans rfl
  have H0 := Lib.hid (H.out.same HS0.out)
  refine (resolve_some _ b room v N H0.out HR.out a HA.out).mono ?_
  rintro e w1 ⟨c, rfl, hres, rfl⟩
  have HRes := Lib.hid hres
  have hc : c < N.length := by obtain ⟨h, _⟩ := hres.lt; simpa using h
  have HC := Lib.hid hc
  obtain ⟨nd, hnd⟩ : ∃ nd, (N.map (·.1))[c]? = some nd := ⟨N[c].1, by rw [List.getElem?_map, List.getElem?_eq_getElem hc]; rfl⟩
  have HLc : Hid (nd.args.length ≤ 17592186044416) := by
    obtain ⟨x, hx, rfl⟩ := List.mem_map.1 (List.mem_of_getElem? hnd)
    exact HL.out x hx
  have HN := Lib.hid hnd
  clear hres hc hnd
  go_wp2_with fail
  refine (hat_at _ b room v N H0.out c nd HN.out HLc.out).mono ?_
  rintro e w2 ⟨q, rfl, hB, hs, hq⟩
  have hE := node_end HS0.out HB0.out hs hB hq HSz.out
  have HE2 := Lib.hid hE.2
  have hB2 := HB0.out.turned hs (fun h => h)
  obtain ⟨r0, r1, r2, r3, r4⟩ := hB2.five
  have rf := fun i => hB2.frozen i
  have rl := hB2.lt
  have HQ : Hid (w.heap.size ≤ q) := by have := HS0.out.size; unfold Hid; omega
  clear hE hB hs hq hB2
  go_wp2_with fail
  have E' := HE2.out (Obj.cells #[.int .i64 nd.sym, .slice (some ⟨q, 0, none⟩) nd.args.length nd.args.length, .int .i64 nd.mark, .bool nd.points, .int .i64 nd.to] 53) (.int .i64 nd.sym) (.slice (some ⟨q, 0, none⟩) nd.args.length nd.args.length) (.int .i64 nd.mark) (.bool nd.points) (.int .i64 nd.to)
  exact bodyPost_ret (results_node2 rfl _ rfl E'.out.1) rfl ⟨c, nd, q, HRes.out, HN.out, rfl, E'.out.2.1, E'.out.2.2, HQ.out⟩

/-- Of no node, or of no heap. -/
theorem node_none (w : World) (p : Option Addr) (a : Int) (hR : ∀ w0, Same w w0 → Calls Try.prog 47 #[.pointer p, .int .i64 a] w0 fun e w' => (∃ k, k ≠ 0 ∧ e = .returned (.tuple #[.int .i64 0, .int .i64 k])) ∧ w0 = w') :
    Calls Try.prog 56 #[sv p, .int .i64 a] w fun e w' => e = .returned (.tuple #[nval nzero (.slice none 0 0), .bool false]) ∧ Same w w' := by
  have HR := Lib.hid hR
  clear hR
  show Calls Try.prog 56 #[.agg #[.pointer p], .int .i64 a] w _
  go_enter Try.func56, Try.ntmps56
  go_wp2_with fail
  refine (HR.out _ (((Turned.refl _ _).alloc _).alloc _)).mono ?_
  rintro e w1 ⟨⟨k, hk, rfl⟩, rfl⟩
  have hk2 : (k == 0) = false := by rw [beq_eq_false_iff_ne]; exact hk
  go_wp2_with fail
  refine bodyPost_ret (results_node2 rfl _ rfl (g := w.heap.size + 1) (a := .int .i64 0) (b := .slice none 0 0) (c := .int .i64 0) (d := .bool false) (e := .int .i64 0) ?_) rfl ⟨rfl, ((Turned.refl _ _).alloc _).alloc _⟩
  have := Blk.new (w.alloc (.cells #[.pointer p] 56)) 53 zcells
  simpa using this
end Go.Proofs.Yteohhiefchoamaa
