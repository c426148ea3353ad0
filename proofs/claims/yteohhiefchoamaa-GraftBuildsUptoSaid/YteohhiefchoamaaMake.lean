/-
  The walk of Make, where it may.
-/
import Derived.Test.YteohhiefchoamaaHead
import Derived.Test.YteohhiefchoamaaWalk3
import Derived.Deep.AppendLies
namespace Go.Proofs.Yteohhiefchoamaa
open Go.RowKit

def hfoot (b : Nat) (v : Value) : Nat → Prop := fun k => k = b ∨ v.ownBlock = some k
theorem info53 : (Try.prog.info? 53).map (fun i => (i.zero, i.size, i.bytes)) = some (some (.agg #[.int .i64 0, .slice none 0 0, .int .i64 0, .bool false, .int .i64 0]), 5, 56) := by kernel_rfl
theorem nall_snoc (N : List NV) (x : NV) : nall (N ++ [x]) = nall N ++ ncells x := by simp [nall]
theorem arg_ne {w : World} {pv : Value} {p : List Int} {b t : Nat} {cs : Array Value} (h : ArgAt w pv p) (hb : Blk w b t cs) (hne : 3 ≠ t) : pv.ownBlock ≠ some b := by
  rcases h with ⟨rfl, _⟩ | ⟨g, rfl, hg⟩
  · simp [Value.ownBlock]
  · intro e
    obtain rfl : g = b := by simpa [Value.ownBlock] using e
    exact Blk.ne_ hg hb hne rfl
theorem arg_own_ne {w : World} {pv v : Value} {p : List Int} {n : Nat} {xs : List Value} (h : ArgAt w pv p) (ho : w.ownsRow 0 53 5 v n xs) : ∀ k, pv.ownBlock = some k → v.ownBlock ≠ some k := by
  intro k hk hf
  rcases h with ⟨rfl, _⟩ | ⟨g, rfl, hg⟩
  · simp [Value.ownBlock] at hk
  · obtain rfl : g = k := by simpa [Value.ownBlock] using hk
    exact own_blk_ne ho hg (by decide) hf
theorem arg_foot {w : World} {pv v : Value} {p : List Int} {b n : Nat} {cs : Array Value} {xs : List Value} (h : ArgAt w pv p) (hb : Blk w b 113 cs) (ho : w.ownsRow 0 53 5 v n xs) : ∀ k, pv.ownBlock = some k → ¬ hfoot b v k := by
  intro k hk hf
  rcases hf with rfl | hf
  · exact arg_ne h hb (by decide) hk
  · exact arg_own_ne h ho k hk hf

theorem make_after {w w3 w4 : World} {b g q cap c : Nat} {room : Int} {a : Option Addr} {N : List NV} {x : Nd} {o : Obj}
    (h : HeapAt w b room (.slice a N.length c) N) (hw3 : Same w w3) (hB : Blk w3 q 3 (nInts x.args).toArray)
    (hown : w4.ownsRow 0 53 5 (.slice (some ⟨g, 0, none⟩) (N.length + 1) cap) (N.length + 1) (nall N ++ ncells (x, .slice (some ⟨q, 0, none⟩) x.args.length x.args.length)))
    (hgrow : (w3.alloc o).grownBy w4 (Value.slice a N.length c).ownBlock) (hat : (Value.slice a N.length c).ownBlock = some g ∨ g = w3.heap.size + 1) :
    HeapAt (w4.setCell ⟨b, 1, none⟩ (.slice (some ⟨g, 0, none⟩) (N.length + 1) cap)) b room (.slice (some ⟨g, 0, none⟩) (N.length + 1) cap) (N ++ [(x, .slice (some ⟨q, 0, none⟩) x.args.length x.args.length)]) ∧
      Turned (hfoot b (.slice a N.length c)) w (w4.setCell ⟨b, 1, none⟩ (.slice (some ⟨g, 0, none⟩) (N.length + 1) cap)) ∧
      ((Value.slice (some ⟨g, 0, none⟩) (N.length + 1) cap).ownBlock = (Value.slice a N.length c).ownBlock ∨ ∃ k, (Value.slice (some ⟨g, 0, none⟩) (N.length + 1) cap).ownBlock = some k ∧ w.heap.size ≤ k) := by
  have h3 := h.same hw3
  have hne := own_blk_ne h3.own h3.blk (by decide)
  have hB4 : Blk w4 b 113 #[.int .i64 room, .slice a N.length c] := (h3.blk.alloc o).grown hgrow hne.symm
  have hgb : g ≠ b := by
    intro e; subst e
    exact own_blk_ne hown hB4 (by decide) rfl
  have hT4 : Turned (hfoot b (.slice a N.length c)) w w4 := ((hw3.mono (fun _ h => h.elim)).alloc o).grown hgrow (fun k hk => .inl (.inr hk))
  have hT34 : Turned (fun k => (Value.slice a N.length c).ownBlock = some k) w3 w4 := ((Turned.refl _ _).alloc o).grown hgrow (fun k hk => .inl hk)
  have hset : ∀ u, Turned (fun k => k = b) w4 (w4.setCell ⟨b, 1, none⟩ u) := fun u => Turned.setCell (S := fun k => k = b) (Turned.refl _ w4) (p := ⟨b, 1, none⟩) (.inl rfl) u
  have hq4 : Blk w4 q 3 (nInts x.args).toArray := hB.turned hT34 (fun e => own_blk_ne h3.own hB (by decide) e)
  refine ⟨⟨(hB4.set_ 1 _).trans rfl, ?_, ?_⟩, hT4.setCell (.inl (.inl rfl)) _, ?_⟩
  · rw [nall_snoc, List.length_append]
    exact World.ownsRow.turned hown (hset _) (fun k hk e => hgb (by simp [Value.ownBlock] at hk; omega))
  · intro y hy
    rw [List.mem_append] at hy
    rcases hy with hy | hy
    · have hp := h3.args y hy
      have hnf := arg_foot hp h3.blk h3.own
      exact (hp.turned hT34 (fun k hk e => hnf k hk (.inr e))).turned (hset _) (fun k hk e => hnf k hk (.inl e))
    · obtain rfl : y = _ := by simpa using hy
      exact .inr ⟨q, rfl, hq4.turned (hset _) (fun e => Blk.ne_ hq4 hB4 (by decide) e)⟩
  · rcases hat with h | h
    · exact .inl h.symm
    · exact .inr ⟨g, rfl, by have := hw3.size; omega⟩

set_option maxRecDepth 100000 in
set_option maxHeartbeats 4000000 in
theorem make_ok (w : World) (b : Nat) (room : Int) (v : Value) (N : List NV) (h : HeapAt w b room v N) (s : Int) (hs : 0 ≤ s) (av : Value) (A : List Int) (hR : Rd w av A) (hA6 : A.length ≤ 6) (hA : ∀ d ∈ A, ∃ j : Nat, d = (j : Int) ∧ j < N.length) (hroom : (N.length : Int) < room) (hr4 : room ≤ 4000) :
    Calls Try.prog 32 #[.pointer (some ⟨b, 0, none⟩), .int .i64 s, av] w fun e w' => ∃ v' q, e = .returned (.tuple #[.int .i64 N.length, .int .i64 0]) ∧ HeapAt w' b room v' (N ++ [(⟨s, A, 0, false, 0⟩, .slice (some ⟨q, 0, none⟩) A.length A.length)]) ∧ Turned (hfoot b v) w w' ∧ (v'.ownBlock = v.ownBlock ∨ ∃ k, v'.ownBlock = some k ∧ w.heap.size ≤ k) ∧ w.heap.size ≤ q := by
  obtain ⟨va, vc, rfl, _, _⟩ := own_shape h.own
  obtain ⟨hb0, hb1⟩ : w.cell? ⟨b, 0, none⟩ = some (.int .i64 room) ∧ w.cell? ⟨b, 1, none⟩ = some (.slice va N.length vc) := ⟨(h.blk.cell 0).trans rfl, (h.blk.cell 1).trans rfl⟩
  have hlt := h.blk.lt
  obtain ⟨aA, ac, rfl, hsrc⟩ := id hR
  have H := Lib.hid h; have HR := Lib.hid hR; have HAA := Lib.hid hA; have HSrc := Lib.hid hsrc
  have hs0 : ¬ s < 0 := by omega
  have h6 : ¬ (A.length : Int) > 6 := by omega
  have h6' : ¬ (6 : Int) < A.length := by omega
  clear h hR hA hsrc
  go_enter Try.func32, Try.ntmps32
  go_wp2_with fail
  go_loopw [23] (fun i wr => ∃ k : Nat, k ≤ A.length ∧ i = .int .i64 k ∧ w = wr) (fun i _ => A.length - (intOf i).toNat)
  case atStart => exact ⟨0, Nat.zero_le _, rfl, rfl⟩
  case round =>
    obtain ⟨k, hk, rfl, rfl⟩ := hrel
    by_cases hlt2 : k < A.length
    · obtain ⟨bl, off, rfl, hc⟩ := HSrc.out (by omega)
      have hd := hc k hlt2
      obtain ⟨j, hj, hjl⟩ := HAA.out A[k] (List.getElem_mem _)
      rw [hj] at hd
      have HJ := Lib.hid hjl
      clear hc hj hjl
      have hk0 : (0 : Int) ≤ k := by omega
      have hk1 : (k : Int) < A.length := by omega
      go_wp2_with fail
      refine (has_yes _ b room _ N H.out j HJ.out).mono ?_
      rintro e w1 ⟨rfl, rfl⟩
      go_wp2_with fail
      exact ⟨⟨k + 1, by omega, by go_num, trivial⟩, by simp [intOf]; omega⟩
    · have hkk : k = A.length := by omega
      subst hkk
      have hfull : ¬ (N.length : Int) ≥ room := by omega
      have hfull2 : ¬ room ≤ (N.length : Int) := by omega
      obtain ⟨i0, hi0, hz0, hz1, hz2⟩ := info_parts info53
      have HI : Hid (Try.prog.info? 53 = some i0 ∧ i0.zero = some (.agg #[.int .i64 0, .slice none 0 0, .int .i64 0, .bool false, .int .i64 0]) ∧ i0.size = 5 ∧ i0.bytes = 56) := ⟨hi0, hz0, hz1, hz2⟩
      clear hi0 hz0 hz1 hz2
      have hne : (Value.slice va N.length vc).ownBlock ≠ some b := own_blk_ne H.out.own H.out.blk (by decide)
      have HNE := Lib.hid hne
      clear hne
      go_wp2_with fail
      go_quiet (fail)
      obtain ⟨w0, hw0⟩ : ∃ w0, w0 = w.drewN nq := ⟨_, rfl⟩
      have hS0 : Same w w0 := by rw [hw0]; exact (Turned.refl _ _).drewN nq
      have hb0' : w0.cell? ⟨b, 0, none⟩ = some (.int .i64 room) := (hS0.cell (p := ⟨b, 0, none⟩) hlt (fun h => h)).trans hb0
      have hb1' : w0.cell? ⟨b, 1, none⟩ = some (.slice va N.length vc) := (hS0.cell (p := ⟨b, 1, none⟩) hlt (fun h => h)).trans hb1
      have hltb : b < w0.heap.size := by have := hS0.size; omega
      have HR0 := Lib.hid (HR.out.same_ hS0)
      have HS0 := Lib.hid hS0
      rw [← hw0]
      clear hw0 hS0
      go_wp2_with fail
      go_region_law (first | ((refine step_append_lies _ (by rfl) _ _ _ (by rfl) 0 53 i0 _ 5 56 Try.underlying23 HI.out.1 HI.out.2.1 HI.out.2.2.1 HI.out.2.2.2 rfl (by omega) (.slice va N.length vc) N.length (nall N) (by rfl) (HOW.out.alloc _) ⟨w3.heap.size, 0, none⟩ 1 1 (ncells (⟨s, A, 0, false, 0⟩, .slice (some ⟨q, 0, none⟩) A.length A.length)) (by rfl) (by rfl) (World.news_of_block (cs := #[.int .i64 s, .slice (some ⟨q, 0, none⟩) A.length A.length, .int .i64 0, .bool false, .int .i64 0]) (t := 53) (fr := (0, 0)) (heap_alloc_new w3 _)) (by simp [ncells, Value.oneCell']) (by omega) (by unfold maxLen; omega) (by omega) (by simp) (w3.heap.size + 1) (by simp) ?_; intro g cap w4 hown4 hgrow4 hat4 hlt4; have k4 : w4.cell? ⟨b, 1, none⟩ = some (.slice va N.length vc) := ((hgrow4.cell_far ⟨b, 1, none⟩ (by simp; omega) HNE.out.symm).trans (World.cell?_alloc_lt w3 _ ⟨b, 1, none⟩ h3lt)).trans k1; have kf : w4.frozen? ⟨b, 1, none⟩ = false := ((hgrow4.frozen_far ⟨b, 1, none⟩ (by simp; omega) HNE.out.symm).trans (World.frozen?_alloc_past _ b 1 h3lt)).trans kf3)) | ((go_simp; go_at_call 64; refine (fresh_any _ _ A (by exact HR0.out) (by omega)).mono ?_; rintro e w3 ⟨q, rfl, hB3, hs3, hq3⟩; have HS3 : Hid (Same w w3) := (HS0.out.drew).trans hs3 (fun _ h => h.elim); have HB3 := Lib.hid hB3; have HQ3 := Lib.hid hq3; have HSp := Lib.hid (H.out.same HS3.out); have k0 : w3.cell? ⟨b, 0, none⟩ = some (.int .i64 room) := (HSp.out.blk.cell 0).trans rfl; have k1 : w3.cell? ⟨b, 1, none⟩ = some (.slice va N.length vc) := (HSp.out.blk.cell 1).trans rfl; have kf3 : w3.frozen? ⟨b, 1, none⟩ = false := HSp.out.blk.frozen 1; have h3lt : b < w3.heap.size := HSp.out.blk.lt; have HOW := Lib.hid HSp.out.own; clear hs3 hB3 hq3)))
      all_goals
        have AA := Lib.hid (make_after H.out HS3.out HB3.out hown4 hgrow4 hat4)
        have hq : Hid (w.heap.size ≤ q) := by have := HQ3.out; have := HS0.out.size; simp at *; unfold Hid; omega
        obtain ⟨j0, j1⟩ : (w4.setCell ⟨b, 1, none⟩ (.slice (some ⟨g, 0, none⟩) (N.length + 1) cap)).cell? ⟨b, 1, none⟩ = some (.slice (some ⟨g, 0, none⟩) (N.length + 1) cap) ∧ True := ⟨(AA.out.1.blk.cell 1).trans rfl, trivial⟩
        clear hown4 hgrow4 hat4 hlt4 j1
        go_wp2_with fail
        go_ret2
        exact ⟨rfl, _, q, AA.out.1, AA.out.2.1, AA.out.2.2, hq.out⟩
end Go.Proofs.Yteohhiefchoamaa
