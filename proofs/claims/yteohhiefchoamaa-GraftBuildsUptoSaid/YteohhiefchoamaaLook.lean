/-
  What nodes lead to; the walks of At, Resolve.
-/
import Derived.Test.YteohhiefchoamaaAt
namespace Go.Proofs.Yteohhiefchoamaa
open Go.RowKit

def down (x : Nd) : List Int := if x.points then [x.to] else x.args
/-- No node stands beneath itself, and all that is told of is there. -/
def Ranked (N : List Nd) : Prop := ∃ rk : Nat → Nat, ∀ i (h : i < N.length), ∀ d ∈ down N[i], ∃ j : Nat, d = (j : Int) ∧ j < N.length ∧ rk j < rk i
inductive Res (N : List Nd) : Nat → Nat → Prop
  | here {a : Nat} (h : a < N.length) (hp : N[a].points = false) : Res N a a
  | step {a t b : Nat} (h : a < N.length) (hp : N[a].points = true) (ht : N[a].to = (t : Int)) (r : Res N t b) : Res N a b
theorem Res.lt {N : List Nd} {a b : Nat} (h : Res N a b) : ∃ hb : b < N.length, N[b].points = false := by
  induction h with
  | here h hp => exact ⟨h, hp⟩
  | step _ _ _ _ ih => exact ih
theorem Res.from_lt {N : List Nd} {a b : Nat} (h : Res N a b) : a < N.length := by
  cases h with
  | here h _ => exact h
  | step h _ _ _ => exact h
theorem Res.one {N : List Nd} {a b c : Nat} (h : Res N a b) : Res N a c → b = c := by
  induction h generalizing c with
  | here h hp =>
    intro k
    cases k with
    | here => rfl
    | step h' hp' _ _ => rw [hp] at hp'; cases hp'
  | step h hp ht r ih =>
    intro k
    cases k with
    | here h' hp' => rw [hp] at hp'; cases hp'
    | step h' hp' ht' r' =>
      have e := ht.symm.trans ht'
      obtain rfl : _ = _ := Int.ofNat.inj e
      exact ih r'
theorem Ranked.res {N : List Nd} (hr : Ranked N) : ∀ a, a < N.length → ∃ b, Res N a b := by
  obtain ⟨rk, h⟩ := hr
  have key : ∀ n a, rk a < n → a < N.length → ∃ b, Res N a b := by
    intro n
    induction n with
    | zero => intro a h0; omega
    | succ n ih =>
      intro a h0 ha
      cases hp : N[a].points with
      | false => exact ⟨a, .here ha hp⟩
      | true =>
        obtain ⟨j, hj, hl, hrk⟩ := h a ha N[a].to (by simp [down, hp])
        obtain ⟨b, hb⟩ := ih j (by omega) hl
        exact ⟨b, .step ha hp hj hb⟩
  exact fun a => key (rk a + 1) a (by omega)

theorem Blk.five {w : World} {g : Nat} {t : TypeId} {a b c d e : Value} (h : Blk w g t #[a, b, c, d, e]) : w.cell? ⟨g, 0, none⟩ = some a ∧ w.cell? ⟨g, 1, none⟩ = some b ∧ w.cell? ⟨g, 2, none⟩ = some c ∧ w.cell? ⟨g, 3, none⟩ = some d ∧ w.cell? ⟨g, 4, none⟩ = some e :=
  ⟨(h.cell 0).trans rfl, (h.cell 1).trans rfl, (h.cell 2).trans rfl, (h.cell 3).trans rfl, (h.cell 4).trans rfl⟩
theorem results_node2 {w : World} {fn : Func} {t u : Tmp} (h : fn.results = #[.cell t 53, .tmp u]) (tmps : Array Value) {g : Nat} (ht : tmps.getD t undef = .pointer (some ⟨g, 0, none⟩)) {a b c d e : Value} (hB : Blk w g 53 #[a, b, c, d, e]) :
    (results fn tmps).run Try.prog w = .ok (.tuple #[.agg #[a, b, c, d, e], tmps.getD u undef]) w := by
  obtain ⟨h0, h1, h2, h3, h4⟩ := hB.five
  have ht' : tmps[t]?.getD undef = .pointer (some ⟨g, 0, none⟩) := by simpa using ht
  simp [results, h, ht', go_sem, h0, h1, h2, h3, h4]
theorem set5_turned (w : World) (g : Nat) (a b c d e : Value) : Turned (fun k => k = g) w (((((w.setCell ⟨g, 0, none⟩ a).setCell ⟨g, 1, none⟩ b).setCell ⟨g, 2, none⟩ c).setCell ⟨g, 3, none⟩ d).setCell ⟨g, 4, none⟩ e) :=
  (((((Turned.refl (fun k => k = g) w).setCell (p := ⟨g, 0, none⟩) (.inl rfl) a).setCell (p := ⟨g, 1, none⟩) (.inl rfl) b).setCell (p := ⟨g, 2, none⟩) (.inl rfl) c).setCell (p := ⟨g, 3, none⟩) (.inl rfl) d).setCell (p := ⟨g, 4, none⟩) (.inl rfl) e
theorem set5_blk {w : World} {g : Nat} {t : TypeId} {a' b' c' d' e' : Value} (hb : Blk w g t #[a', b', c', d', e']) (a b c d e : Value) : Blk (((((w.setCell ⟨g, 0, none⟩ a).setCell ⟨g, 1, none⟩ b).setCell ⟨g, 2, none⟩ c).setCell ⟨g, 3, none⟩ d).setCell ⟨g, 4, none⟩ e) g t #[a, b, c, d, e] := ((((hb.set_ 0 a).set_ 1 b).set_ 2 c).set_ 3 d).set_ 4 e

def nzero : Nd := ⟨0, [], 0, false, 0⟩

set_option maxHeartbeats 2000000 in
theorem hat_some (w : World) (b : Nat) (room : Int) (v : Value) (N : List NV) (h : HeapAt w b room v N) (a : Nat) (ha : a < N.length) (hl : N[a].1.args.length ≤ 17592186044416) :
    Calls Try.prog 40 #[.pointer (some ⟨b, 0, none⟩), .int .i64 a] w fun e w' => ∃ g, e = .returned (.tuple #[nval N[a].1 (.slice (some ⟨g, 0, none⟩) N[a].1.args.length N[a].1.args.length), .int .i64 0]) ∧ Blk w' g 3 (nInts N[a].1.args).toArray ∧ Same w w' ∧ w.heap.size ≤ g := by
  obtain ⟨va, c, rfl, _, _⟩ := own_shape h.own
  obtain ⟨hb0, hb1⟩ : w.cell? ⟨b, 0, none⟩ = some (.int .i64 room) ∧ w.cell? ⟨b, 1, none⟩ = some (.slice va N.length c) := ⟨(h.blk.cell 0).trans rfl, (h.blk.cell 1).trans rfl⟩
  obtain ⟨g, rfl, d0, d1, d2, d3, d4⟩ := h.at_ a ha
  have hA := (h.args N[a] (List.getElem_mem _)).rd
  obtain ⟨⟨nd, nv⟩, hx⟩ : ∃ x, x = N[a] := ⟨_, rfl⟩
  rw [← hx] at d0 d1 d2 d3 d4 hA hl ⊢
  simp only at d0 d1 d2 d3 d4 hA hl ⊢
  obtain ⟨nA, nc, rfl, hhA⟩ := id hA
  clear hhA
  have HA := Lib.hid (hA.same_ (w' := w.alloc (.cells #[.int .i64 0, .slice none 0 0, .int .i64 0, .bool false, .int .i64 0] 53)) ((Turned.refl _ _).alloc _))
  have hlt := h.blk.lt
  have H := Lib.hid h
  have ha0 : (0 : Int) ≤ a := by omega
  have ha1 : (a : Int) < N.length := by omega
  have HAI := Lib.hid ha
  clear h hA hx
  go_enter Try.func40, Try.ntmps40
  go_wp2_with fail
  refine (has_yes _ b room _ N (by exact H.out.same ((Turned.refl _ _).alloc _)) a HAI.out).mono ?_
  rintro e w1 ⟨rfl, rfl⟩
  have S1 : Same w (w.alloc (.cells #[.int .i64 0, .slice none 0 0, .int .i64 0, .bool false, .int .i64 0] 53)) := (Turned.refl _ _).alloc _
  have gl := World.block_lt_of_cell? _ _ d0
  simp only at gl
  replace d0 := (S1.cell (p := ⟨g, a * 5, none⟩) gl (fun h => h)).trans d0
  replace d1 := (S1.cell (p := ⟨g, a * 5 + 1, none⟩) gl (fun h => h)).trans d1
  replace d2 := (S1.cell (p := ⟨g, a * 5 + 2, none⟩) gl (fun h => h)).trans d2
  replace d3 := (S1.cell (p := ⟨g, a * 5 + 3, none⟩) gl (fun h => h)).trans d3
  replace d4 := (S1.cell (p := ⟨g, a * 5 + 4, none⟩) gl (fun h => h)).trans d4
  replace hb1 := (S1.cell (p := ⟨b, 1, none⟩) hlt (fun h => h)).trans hb1
  have HB0 := Lib.hid (Blk.new w 53 #[.int .i64 0, .slice none 0 0, .int .i64 0, .bool false, .int .i64 0])
  have HS1 := Lib.hid S1
  have HSz : Hid ((w.alloc (.cells #[.int .i64 0, .slice none 0 0, .int .i64 0, .bool false, .int .i64 0] 53)).heap.size = w.heap.size + 1) := by simp [Hid]
  clear S1 hb0
  generalize (w.alloc (.cells #[.int .i64 0, .slice none 0 0, .int .i64 0, .bool false, .int .i64 0] 53)) = w1 at d0 d1 d2 d3 d4 hb1 HA HB0 HS1 HSz ⊢
  go_wp2_with fail
  refine (nown_any _ nd _ HA.out (by omega)).mono ?_
  rintro e w2 ⟨q, rfl, hB, hs, hq⟩
  have hR : Blk w2 w.heap.size 53 #[.int .i64 0, .slice none 0 0, .int .i64 0, .bool false, .int .i64 0] := HB0.out.turned hs (fun h => h)
  obtain ⟨r0, r1, r2, r3, r4⟩ := hR.five
  have hf := fun i => hR.frozen i
  have hlt2 := hR.lt
  have HR := Lib.hid hR; have HB := Lib.hid hB
  have HQ : Hid (w.heap.size < q) := by have := HSz.out; unfold Hid; omega
  have HS : Hid (Same w w2) := HS1.out.trans hs (fun _ h => h.elim)
  clear hR hs hB hq
  have E : ∀ n1 n2 n3 n4 n5 : Value, Hid (Blk (((((w2.setCell ⟨w.heap.size, 0, none⟩ n1).setCell ⟨w.heap.size, 1, none⟩ n2).setCell ⟨w.heap.size, 2, none⟩ n3).setCell ⟨w.heap.size, 3, none⟩ n4).setCell ⟨w.heap.size, 4, none⟩ n5) w.heap.size 53 #[n1, n2, n3, n4, n5] ∧
      Blk (((((w2.setCell ⟨w.heap.size, 0, none⟩ n1).setCell ⟨w.heap.size, 1, none⟩ n2).setCell ⟨w.heap.size, 2, none⟩ n3).setCell ⟨w.heap.size, 3, none⟩ n4).setCell ⟨w.heap.size, 4, none⟩ n5) q 3 (nInts nd.args).toArray ∧
      Same w (((((w2.setCell ⟨w.heap.size, 0, none⟩ n1).setCell ⟨w.heap.size, 1, none⟩ n2).setCell ⟨w.heap.size, 2, none⟩ n3).setCell ⟨w.heap.size, 3, none⟩ n4).setCell ⟨w.heap.size, 4, none⟩ n5)) := by
    intro n1 n2 n3 n4 n5
    have ht := set5_turned w2 w.heap.size n1 n2 n3 n4 n5
    exact ⟨set5_blk HR.out _ _ _ _ _, HB.out.turned ht (by have := HQ.out; omega), HS.out.trans ht (fun i hi => .inr (by omega))⟩
  go_wp2_with fail
  have E' := E (.int .i64 nd.sym) (.slice (some ⟨q, 0, none⟩) nd.args.length nd.args.length) (.int .i64 nd.mark) (.bool nd.points) (.int .i64 nd.to)
  exact bodyPost_ret (results_node2 rfl _ rfl E'.out.1) rfl ⟨q, rfl, E'.out.2.1, E'.out.2.2, Nat.le_of_lt HQ.out⟩

theorem hat_bad (w : World) (b : Nat) (room : Int) (v : Value) (N : List NV) (h : HeapAt w b room v N) (a : Int) (ha : a < 0 ∨ (N.length : Int) ≤ a) :
    Calls Try.prog 40 #[.pointer (some ⟨b, 0, none⟩), .int .i64 a] w fun e w' => e = .returned (.tuple #[nval nzero (.slice none 0 0), .int .i64 112]) ∧ Same w w' := by
  have H := Lib.hid h
  clear h
  go_enter Try.func40, Try.ntmps40
  go_wp2_with fail
  refine (has_no _ b room _ N (by exact H.out.same ((Turned.refl _ _).alloc _)) a ha).mono ?_
  rintro e w1 ⟨rfl, rfl⟩
  go_wp2_with fail
  exact bodyPost_ret (results_node2 rfl _ rfl (Blk.new w 53 _)) rfl ⟨rfl, (Turned.refl _ _).alloc _⟩

set_option maxHeartbeats 2000000 in
theorem resolve_some (w : World) (b : Nat) (room : Int) (v : Value) (N : List NV) (h : HeapAt w b room v N) (hr : Ranked (N.map (·.1))) (a : Nat) (ha : a < N.length) :
    Calls Try.prog 47 #[.pointer (some ⟨b, 0, none⟩), .int .i64 a] w fun e w' => ∃ c : Nat, e = .returned (.tuple #[.int .i64 c, .int .i64 0]) ∧ Res (N.map (·.1)) a c ∧ w = w' := by
  obtain ⟨va, c, rfl, _, _⟩ := own_shape h.own
  obtain ⟨hb0, hb1⟩ : w.cell? ⟨b, 0, none⟩ = some (.int .i64 room) ∧ w.cell? ⟨b, 1, none⟩ = some (.slice va N.length c) := ⟨(h.blk.cell 0).trans rfl, (h.blk.cell 1).trans rfl⟩
  obtain ⟨rk, hrk⟩ := hr
  have H := Lib.hid h; have HRk := Lib.hid hrk; have HA := Lib.hid ha
  clear h hrk ha
  go_enter Try.func47, Try.ntmps47
  go_wp2_with fail
  refine (has_yes _ b room _ N H.out a HA.out).mono ?_
  rintro e w1 ⟨rfl, rfl⟩
  go_wp2_with fail
  go_loopw [1] (fun i wr => ∃ k : Nat, k < N.length ∧ i = .int .i64 k ∧ Hid (∀ c, Res (N.map (·.1)) k c → Res (N.map (·.1)) a c) ∧ w = wr) (fun i _ => rk (intOf i).toNat)
  case atStart => exact ⟨a, HA.out, rfl, fun _ h => h, rfl⟩
  case round =>
    obtain ⟨k, hk, rfl, HC, rfl⟩ := hrel
    obtain ⟨g, rfl, d0, d1, d2, d3, d4⟩ := H.out.at_ k hk
    have HX : Hid ((N.map (·.1))[k]'(by simpa using hk) = N[k].1) := by simp [Hid]
    obtain ⟨⟨nd, nv⟩, hx⟩ : ∃ x, x = N[k] := ⟨_, rfl⟩
    rw [← hx] at d3 d4 HX
    simp only at d3 d4 HX
    clear d0 d1 d2 hx
    have hk0 : (0 : Int) ≤ k := by omega
    have hk1 : (k : Int) < N.length := by omega
    have HKM : Hid (k < (N.map (·.1)).length) := by simpa [Hid] using hk
    cases hp : nd.points with
    | false =>
      rw [hp] at d3
      have HR : Hid (Res (N.map (·.1)) a k) := HC.out k (.here HKM.out (by rw [HX.out, hp]))
      clear hp
      go_wp2_with fail
      go_ret2
      exact ⟨k, rfl, HR.out, rfl⟩
    | true =>
      rw [hp] at d3
      obtain ⟨j, hj, hjl, hjr⟩ := HRk.out k HKM.out nd.to (by rw [HX.out]; simp [down, hp])
      have HR : Hid (∀ c, Res (N.map (·.1)) j c → Res (N.map (·.1)) a c) := fun c hc => HC.out c (.step HKM.out (by rw [HX.out, hp]) (by rw [HX.out, hj]) hc)
      rw [hj] at d4
      have HJ : Hid (j < N.length ∧ rk j < rk k) := ⟨by simpa using hjl, hjr⟩
      clear hp hj hjl hjr
      go_wp2_with fail
      exact ⟨⟨j, HJ.out.1, rfl, HR.out, trivial⟩, by simpa [intOf] using HJ.out.2⟩

theorem resolve_bad (w : World) (b : Nat) (room : Int) (v : Value) (N : List NV) (h : HeapAt w b room v N) (a : Int) (ha : a < 0 ∨ (N.length : Int) ≤ a) :
    Calls Try.prog 47 #[.pointer (some ⟨b, 0, none⟩), .int .i64 a] w fun e w' => e = .returned (.tuple #[.int .i64 0, .int .i64 112]) ∧ w = w' := by
  have H := Lib.hid h
  clear h
  go_enter Try.func47, Try.ntmps47
  go_wp2_with fail
  refine (has_no _ b room _ N H.out a ha).mono ?_
  rintro e w1 ⟨rfl, rfl⟩
  go_wp2_with fail
  go_ret2
  exact ⟨rfl, rfl⟩
theorem resolve_nil (w : World) (a : Int) : Calls Try.prog 47 #[.pointer none, .int .i64 a] w fun e w' => e = .returned (.tuple #[.int .i64 0, .int .i64 1]) ∧ w = w' := by
  go_enter Try.func47, Try.ntmps47
  go_wp2_with fail
  go_ret2
  exact ⟨rfl, rfl⟩
end Go.Proofs.Yteohhiefchoamaa
