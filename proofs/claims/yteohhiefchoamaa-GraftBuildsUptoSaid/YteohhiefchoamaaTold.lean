/-
  The walk of the law's told: all nodes of a heap, in new memory.
-/
import Derived.Test.YteohhiefchoamaaAwake
namespace Go.Proofs.Yteohhiefchoamaa
open Go.RowKit

/-- Nodes in memory that is newer than w. -/
structure ToldI (w wr : World) (u : Value) (K : List NV) : Prop where
  same : Same w wr
  own : wr.ownsRow 0 53 5 u K.length (nall K)
  args : ∀ x ∈ K, ArgAt wr x.2 x.1.args
  new : ∀ k, (u.ownBlock = some k ∨ ablocks K k) → w.heap.size ≤ k
theorem below_same {w w' : World} (h : Below w.heap.size w w') : Same w w' := ⟨h.os, h.tape, h.output, h.size, fun i hi _ => h.block i hi⟩
theorem ncells_one (x : NV) (h : x.2.oneCell' = true) : ∀ u ∈ ncells x, u.oneCell' = true := by
  intro u hu
  simp [ncells] at hu
  rcases hu with rfl | rfl | rfl | rfl | rfl <;> first | rfl | exact h
theorem ToldI.next {w wr w1 w2 : World} {u u2 : Value} {K : List NV} {x : Nd} {q : Nat} (h : ToldI w wr u K) (hs : Same wr w1) (hB : Blk w1 q 3 (nInts x.args).toArray) (hq : wr.heap.size ≤ q)
    (ho : w2.ownsRow 0 53 5 u2 (K.length + 1) (nall K ++ ncells (x, .slice (some ⟨q, 0, none⟩) x.args.length x.args.length))) {cs : Array Value} {t : TypeId} (hg : (w1.alloc (.cells cs t)).grownBy w2 u.ownBlock) (hat : u2.ownBlock = u.ownBlock ∨ u2.ownBlock = some (w1.alloc (.cells cs t)).heap.size) :
    ToldI w w2 u2 (K ++ [(x, .slice (some ⟨q, 0, none⟩) x.args.length x.args.length)]) := by
  have ht : Turned (fun k => u.ownBlock = some k) w1 w2 := ((Turned.refl _ w1).alloc _).grown hg (fun k hk => .inl hk)
  have h01 : Same w w1 := h.same.trans hs (fun _ h => h.elim)
  have hne : ∀ {g : Nat} {W : World} {l : List Int} {n : Nat} {xs : List Value}, Blk W g 3 (nInts l).toArray → W.ownsRow 0 53 5 u n xs → u.ownBlock ≠ some g := fun hb ho => own_blk_ne ho hb (by decide)
  refine ⟨below_same ((h01.mono (T := fun k => w.heap.size ≤ k) (fun _ h => h.elim)).trans ht (fun i hi => .inl (h.new i (.inl hi))) |>.below (Nat.le_refl _) (fun i hi => hi)), ?_, ?_, ?_⟩
  · rw [nall_snoc, List.length_append]; exact ho
  · intro y hy
    rw [List.mem_append] at hy
    have ho1 := World.ownsRow.turned h.own hs (fun _ _ h => h)
    rcases hy with hy | hy
    · refine ((h.args y hy).turned hs (fun _ _ h => h)).turned ht (fun k hk hu => ?_)
      rcases h.args y hy with ⟨e, _⟩ | ⟨g, e, hg⟩
      · rw [e] at hk; simp [Value.ownBlock] at hk
      · rw [e] at hk
        obtain rfl : g = k := by simpa [Value.ownBlock] using hk
        exact hne hg h.own hu
    · obtain rfl : y = _ := by simpa using hy
      exact .inr ⟨q, rfl, hB.turned ht (fun hu => hne hB ho1 hu)⟩
  · rintro k (hk | ⟨y, hy, hk⟩)
    · rcases hat with e | e
      · exact h.new k (.inl (e.symm.trans hk))
      · have e2 := e.symm.trans hk
        have : k = w1.heap.size + 1 := by simpa using e2.symm
        have := h01.size
        omega
    · rw [List.mem_append] at hy
      rcases hy with hy | hy
      · exact h.new k (.inr ⟨y, hy, hk⟩)
      · obtain rfl : y = _ := by simpa using hy
        obtain rfl : q = k := by simpa [Value.ownBlock] using hk
        exact Nat.le_trans h.same.size hq

set_option maxRecDepth 100000 in
set_option maxHeartbeats 4000000 in
theorem told_any (w : World) (b : Nat) (room : Int) (v : Value) (N : List NV) (h : HeapAt w b room v N) (hN : N.length ≤ 4000) (hA : ∀ x ∈ N, x.1.args.length ≤ 17592186044416) :
    Calls Try.prog 16 #[.pointer (some ⟨b, 0, none⟩)] w fun e w' => ∃ u K, e = .returned (.tuple #[u, .bool true]) ∧ ToldI w w' u K ∧ K.map (·.1) = N.map (·.1) := by
  have H := Lib.hid h; have HA := Lib.hid hA
  clear h hA
  obtain ⟨i0, hi0, hz0, hz1, hz2⟩ := info_parts info53
  have HI : Hid (Try.prog.info? 53 = some i0 ∧ i0.zero = some (.agg #[.int .i64 0, .slice none 0 0, .int .i64 0, .bool false, .int .i64 0]) ∧ i0.size = 5 ∧ i0.bytes = 56) := ⟨hi0, hz0, hz1, hz2⟩
  clear hi0 hz0 hz1 hz2
  go_enter Try.func16, Try.ntmps16
  go_wp2_with fail
  go_loopw [4, 5] (fun u a wr => ∃ k : Nat, ∃ K : List NV, k ≤ N.length ∧ a = .int .i64 k ∧ Hid (ToldI w wr u K ∧ K.map (·.1) = (N.map (·.1)).take k)) (fun _ a _ => N.length - (intOf a).toNat)
  case atStart => exact ⟨0, [], Nat.zero_le _, rfl, ⟨Turned.refl _ _, World.ownsRow_nil _ _ _ _, fun x hx => by simp at hx, fun k hk => by rcases hk with hk | ⟨y, hy, _⟩; simp [Value.ownBlock] at hk; simp at hy⟩, rfl⟩
  case round =>
    obtain ⟨k, K, hk, rfl, HV⟩ := hrel
    have hKl : K.length = k := by have := congrArg List.length HV.out.2; simp at this; omega
    have HHp := Lib.hid (H.out.same HV.out.1.same)
    by_cases hlt : k < N.length
    · have hx : (N.map (·.1))[k]? = some N[k].1 := by simp [hlt]
      have hla := HA.out N[k] (List.getElem_mem _)
      have HTk : Hid ((N.map (·.1)).take (k + 1) = (N.map (·.1)).take k ++ [N[k].1]) := by
        unfold Hid
        rw [List.take_succ_eq_append_getElem (by simpa using hlt)]; simp
      obtain ⟨x, hxe⟩ : ∃ x, x = N[k].1 := ⟨_, rfl⟩
      rw [← hxe] at hx hla HTk
      have HX := Lib.hid hx
      clear hx hxe
      have hk1 : (k : Int) < N.length := by omega
      have hk2 : (k : Int) < 4000 := by omega
      go_wp2_with (first | (go_at_call 14; refine (used_any _ b room v N HHp.out).mono ?_; rintro e w' ⟨rfl, rfl⟩))
      refine (hat_at _ b room v N HHp.out k x HX.out hla).mono ?_
      rintro e w1 ⟨q, rfl, hB, hs, hq⟩
      have HB := Lib.hid hB; have HS1 := Lib.hid hs; have HQ := Lib.hid hq
      clear hB hs hq
      rw [nodeCells]
      obtain ⟨ua, uc, rfl, _, _⟩ := own_shape HV.out.1.own
      obtain ⟨an, han⟩ : ∃ an, an = x.args.length := ⟨_, rfl⟩
      have HHan := Lib.hid han
      rw [← han]
      clear han
      have HO : Hid ((w1.alloc (.cells #[.int .i64 x.sym, .slice (some ⟨q, 0, none⟩) an an, .int .i64 x.mark, .bool x.points, .int .i64 x.to] 53)).ownsRow 0 53 5 (.slice ua K.length uc) K.length (nall K)) := World.ownsRow.turned HV.out.1.own ((HS1.out).alloc _) (fun _ _ h => h)
      rw [hKl] at HO ⊢
      go_wp2_with (at_builtin; go_loud (refine wpList_append_src _ rfl _ _ 23 rfl 53 i0 _ 5 56 Try.underlying23 HI.out.1 HI.out.2.1 HI.out.2.2.1 HI.out.2.2.2 rfl (by omega) (.slice ua k uc) k (nall K) rfl (by exact HO.out.alloc _) (some ⟨w1.heap.size + 1, 0, none⟩) 1 1 (ncells (x, .slice (some ⟨q, 0, none⟩) an an)) rfl rfl (by have h1 := src_new (w1.alloc (.cells #[.int .i64 x.sym, .slice (some ⟨q, 0, none⟩) an an, .int .i64 x.mark, .bool x.points, .int .i64 x.to] 53)) (ncells (x, .slice (some ⟨q, 0, none⟩) an an)) 53; rw [World.size_alloc] at h1; exact h1) (ncells_one _ rfl) (by unfold maxLen; omega) (by omega) ?_))
      intro a2 c2 w2 ho2 hg2 hat2
      have HN : Hid (ToldI w w2 (.slice a2 (k + 1) c2) (K ++ [(x, .slice (some ⟨q, 0, none⟩) x.args.length x.args.length)])) := by
        refine ToldI.next (w1 := w1.alloc (.cells #[.int .i64 x.sym, .slice (some ⟨q, 0, none⟩) an an, .int .i64 x.mark, .bool x.points, .int .i64 x.to] 53)) HV.out.1 (HS1.out.alloc _) (HB.out.alloc _) HQ.out ?_ (by rw [hKl]; exact hg2) (by rw [World.size_alloc, World.size_alloc, hKl]; exact hat2)
        rw [← HHan.out, hKl]; exact ho2
      have HM : Hid ((K ++ [((x, .slice (some ⟨q, 0, none⟩) x.args.length x.args.length) : NV)]).map (·.1) = (N.map (·.1)).take (k + 1)) := by
        unfold Hid; rw [HTk.out, List.map_append, HV.out.2]; rfl
      clear ho2 hg2 hat2 HV HO
      go_wp2_with fail
      go_roundw
      case rel => exact ⟨k + 1, _, by omega, by go_num, HN.out, HM.out⟩
      case measure => simp [intOf]; omega
    · have hkk : k = N.length := by omega
      subst hkk
      have hEnd : Hid (K.map (·.1) = N.map (·.1)) := by have := HV.out.2; rwa [show (N.map (·.1)).take N.length = N.map (·.1) from by rw [show N.length = (N.map (·.1)).length from by simp, List.take_length]] at this
      have HT := Lib.hid HV.out.1
      have hlk : ((K.length : Int) == N.length) = true := by rw [beq_iff_eq]; omega
      obtain ⟨ua, uc, rfl, _, _⟩ := own_shape HT.out.own
      have HT2 : Hid (ToldI w wr (.slice ua N.length uc) K) := by have h1 := HT.out; rwa [hKl] at h1
      clear HV HT
      go_wp2_with (first | (go_at_call 14; refine (used_any _ b room v N HHp.out).mono ?_; rintro e w' ⟨rfl, rfl⟩))
      go_ret2
      exact ⟨_, K, rfl, HT2.out, hEnd.out⟩
end Go.Proofs.Yteohhiefchoamaa
