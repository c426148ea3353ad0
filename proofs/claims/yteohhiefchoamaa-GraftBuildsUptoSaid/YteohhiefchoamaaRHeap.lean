/-
  The document's heap, owned; the walks of New, Copied, Nodes.
-/
import Derived.Test.YteohhiefchoamaaRefill
namespace Go.Proofs.Yteohhiefchoamaa
open Go.RowKit

/-- Block r is the document's heap over the row u, of the nodes N. -/
structure RHeap (w : World) (r : Nat) (room : Int) (u : Value) (N : List NV) : Prop where
  blk : Blk w r 72 #[.int .i64 room, u]
  own : w.ownsRow 0 53 5 u N.length (nall N)
  args : ∀ x ∈ N, w.ownsRow 0 3 1 x.2 x.1.args.length (nInts x.1.args)
theorem RHeap.same {w w' : World} {r : Nat} {room : Int} {u : Value} {N : List NV} (h : RHeap w r room u N) (ht : Same w w') : RHeap w' r room u N :=
  ⟨h.blk.turned ht (fun h => h), World.ownsRow.turned h.own ht (fun _ _ h => h), fun x hx => World.ownsRow.turned (h.args x hx) ht (fun _ _ h => h)⟩
theorem own_ndrd2 {w : World} {u : Value} {K : List NV} (ho : w.ownsRow 0 53 5 u K.length (nall K)) (ha : ∀ x ∈ K, w.ownsRow 0 3 1 x.2 x.1.args.length (nInts x.1.args)) : NdRd w u (K.map (·.1)) := by
  obtain ⟨a, c, rfl, _, _⟩ := own_shape ho
  refine ⟨a, c, by simp, fun h0 => ?_⟩
  rw [List.length_map] at h0
  have hH : ∀ k (hk : k < K.length), ∃ g, a = some ⟨g, 0, none⟩ ∧ w.cell? ⟨g, k * 5, none⟩ = some (.int .i64 K[k].1.sym) ∧ w.cell? ⟨g, k * 5 + 1, none⟩ = some K[k].2 ∧ w.cell? ⟨g, k * 5 + 2, none⟩ = some (.int .i64 K[k].1.mark) ∧ w.cell? ⟨g, k * 5 + 3, none⟩ = some (.bool K[k].1.points) ∧ w.cell? ⟨g, k * 5 + 4, none⟩ = some (.int .i64 K[k].1.to) := by
    intro k hk
    obtain ⟨g, cap, hv, _, hg⟩ := ho.form (by omega)
    obtain ⟨rfl, rfl⟩ : a = some ⟨g, 0, none⟩ ∧ c = cap := by simpa using hv
    have hc := ho.cells (g := g) rfl
    obtain ⟨e0, e1, e2, e3, e4⟩ := nall_at K k hk
    have d0 := hc _ _ e0
    have d1 := hc _ _ e1
    have d2 := hc _ _ e2
    have d3 := hc _ _ e3
    have d4 := hc _ _ e4
    simp only [Addr.add_lit, Nat.zero_add] at d0 d1 d2 d3 d4
    exact ⟨g, rfl, d0, d1, d2, d3, d4⟩
  obtain ⟨g, rfl, _⟩ := hH 0 h0
  refine ⟨g, 0, rfl, fun k hk => ?_⟩
  rw [List.length_map] at hk
  obtain ⟨g', e, d0, d1, d2, d3, d4⟩ := hH k hk
  injection e with e
  injection e with e1
  subst e1
  simp only [Nat.zero_add, List.getElem_map]
  exact ⟨K[k].2, d0, d1, d2, d3, d4, own_rd (ha K[k] (List.getElem_mem _))⟩
theorem RHeap.rhp {w : World} {r : Nat} {room : Int} {u : Value} {N : List NV} (h : RHeap w r room u N) : RHp w r room u (N.map (·.1)) := ⟨h.blk, own_ndrd2 h.own h.args⟩
theorem RHeap.flt {w : World} {r : Nat} {room : Int} {u : Value} {N : List NV} (h : RHeap w r room u N) : ∀ k, hfoot r u k → k < w.heap.size := by
  rintro k (rfl | hk)
  · exact h.blk.lt
  · exact own_lt h.own hk

theorem rnew_bad (room : Int) (h : room < 1 ∨ 4000 < room) (w : World) : Calls Try.prog 44 #[.int .i64 room] w fun e w' => e = .returned (.tuple #[.pointer none, .int .i64 110]) ∧ w = w' := by
  rcases h with h | h
  all_goals
    go_enter Try.func44, Try.ntmps44
    go_wp2
    all_goals
      go_ret2
      exact ⟨rfl, rfl⟩
theorem rnew_ok (room : Int) (h1 : 1 ≤ room) (h2 : room ≤ 4000) (w : World) : Calls Try.prog 44 #[.int .i64 room] w fun e w' => e = .returned (.tuple #[.pointer (some ⟨w.heap.size, 0, none⟩), .int .i64 0]) ∧ RHeap w' w.heap.size room (.slice none 0 0) [] ∧ Same w w' := by
  go_enter Try.func44, Try.ntmps44
  go_wp2
  go_ret2
  exact ⟨rfl, ⟨Blk.new w 72 _, World.ownsRow_nil _ _ _ _, fun x h => by cases h⟩, (Turned.refl _ _).alloc _⟩

theorem rd_src {w : World} {A : Option Addr} {c : Nat} {p : List Int} (h : Rd w (.slice A p.length c) p) : 0 < p.length → ∃ ad, A = some ad ∧ ∀ j u, (nInts p)[j]? = some u → w.cell? (ad.add j) = some u := by
  obtain ⟨A', c', e, hsrc⟩ := h
  injection e with e1 _ e2
  subst e1
  intro h0
  obtain ⟨bl, off, rfl, hc⟩ := hsrc h0
  refine ⟨_, rfl, fun j u hu => ?_⟩
  simp only [nInts, List.getElem?_map, Option.map_eq_some_iff] at hu
  obtain ⟨n, hn, rfl⟩ := hu
  obtain ⟨hj, rfl⟩ := List.getElem?_eq_some_iff.1 hn
  rw [Addr.add_lit]
  exact hc j hj
theorem empty_row {w : World} : (w.alloc (.cells #[] 3)).ownsRow 0 3 1 (.slice (some ⟨w.heap.size, 0, none⟩) 0 0) 0 [] :=
  ⟨rfl, .inr ⟨w.heap.size, 0, #[], rfl, Nat.zero_le _, heap_alloc_new w _, Nat.le_refl _, Nat.zero_le _, rfl, rfl⟩⟩
set_option maxHeartbeats 1000000 in
theorem copied_any (w : World) (v : Value) (p : List Int) (hR : Rd w v p) (hl : p.length ≤ 17592186044416) :
    Calls Try.prog 80 #[v] w fun e w' => ∃ a c, e = .returned (.slice a p.length c) ∧ w'.ownsRow 0 3 1 (.slice a p.length c) p.length (nInts p) ∧ Same w w' := by
  obtain ⟨A, c, rfl, hA⟩ := hR
  have HS : Hid (Rd (w.alloc (.cells #[] 3)) (.slice A p.length c) p) := Rd.same_ (w := w) ⟨A, c, rfl, hA⟩ ((Turned.refl _ _).alloc _)
  clear hA
  obtain ⟨i0, hi0, hz0, hz1, hz2⟩ := info_parts info3
  have HI : Hid (Try.prog.info? 3 = some i0 ∧ i0.zero = some (.int .i64 0) ∧ i0.size = 1 ∧ i0.bytes = 8) := ⟨hi0, hz0, hz1, hz2⟩
  clear hi0 hz0 hz1 hz2
  go_enter Try.func80, Try.ntmps80
  go_wp2_with (at_builtin; go_loud (refine wpList_append_src _ rfl _ _ 26 rfl 3 i0 _ 1 8 Try.underlying26 HI.out.1 HI.out.2.1 HI.out.2.2.1 HI.out.2.2.2 rfl (by omega) (.slice (some ⟨w.heap.size, 0, none⟩) 0 0) 0 [] rfl (by exact empty_row) A p.length c (nInts p) rfl (by simp [nInts]) (rd_src HS.out) (nInts_one p) (by unfold maxLen; omega) (by omega) ?_))
  intro a1 c1 w1 ho1 hg1 hat1
  have HO1 : Hid (w1.ownsRow 0 3 1 (.slice a1 p.length c1) p.length (nInts p)) := by simpa [Hid] using ho1
  have HT1 : Hid (Same w w1) := by
    have h1 : Turned (fun k => k = w.heap.size) w w1 := ((Turned.refl _ w).alloc _).grown hg1 (fun k hk => .inl (by simpa [Value.ownBlock] using hk.symm))
    exact below_same (h1.below (Nat.le_refl _) (fun i hi => by omega))
  clear ho1 hg1 hat1
  go_wp2_with fail
  go_ret
  exact ⟨_, _, by simp, HO1.out, HT1.out⟩

/-- Nodes in a row of their own that was made since w. -/
structure NodesI (w wr : World) (u : Value) (M : List NV) : Prop where
  same : Same w wr
  own : wr.ownsRow 0 53 5 u M.length (nall M)
  args : ∀ x ∈ M, wr.ownsRow 0 3 1 x.2 x.1.args.length (nInts x.1.args)
  new : ∀ k, u.ownBlock = some k → w.heap.size ≤ k
theorem own_own_ne {w : World} {e e' : TypeId} {size size' n n' : Nat} {v v' : Value} {xs xs' : List Value} (h : w.ownsRow 0 e size v n xs) (h' : w.ownsRow 0 e' size' v' n' xs') (hne : e ≠ e') : ∀ k, v.ownBlock = some k → v'.ownBlock ≠ some k := by
  intro k hk
  rcases h.2 with ⟨rfl, _⟩ | ⟨g, cap, cur, rfl, _, hg, _⟩
  · simp [Value.ownBlock] at hk
  · obtain rfl : g = k := by simpa [Value.ownBlock] using hk
    exact own_blk_ne h' (show Blk w g e cur from hg) (Ne.symm hne)
theorem NodesI.next {w wr w1 w2 : World} {u u2 av : Value} {M : List NV} {x : Nd} (h : NodesI w wr u M) (hs : Same wr w1) (hB : w1.ownsRow 0 3 1 av x.args.length (nInts x.args))
    (ho : w2.ownsRow 0 53 5 u2 (M.length + 1) (nall M ++ ncells (x, av))) {cs : Array Value} {t : TypeId} (hg : (w1.alloc (.cells cs t)).grownBy w2 u.ownBlock) (hat : u2.ownBlock = u.ownBlock ∨ u2.ownBlock = some (w1.alloc (.cells cs t)).heap.size) :
    NodesI w w2 u2 (M ++ [(x, av)]) := by
  have ht : Turned (fun k => u.ownBlock = some k) w1 w2 := ((Turned.refl _ w1).alloc _).grown hg (fun k hk => .inl hk)
  have h01 : Same w w1 := h.same.trans hs (fun _ h => h.elim)
  have ho1 := World.ownsRow.same_ h.own hs
  refine ⟨below_same ((h01.mono (T := fun k => w.heap.size ≤ k) (fun _ h => h.elim)).trans ht (fun i hi => .inl (h.new i hi)) |>.below (Nat.le_refl _) (fun i hi => hi)), ?_, ?_, ?_⟩
  · rw [nall_snoc, List.length_append]; exact ho
  · intro y hy
    rw [List.mem_append] at hy
    rcases hy with hy | hy
    · have h1 := World.ownsRow.same_ (h.args y hy) hs
      exact World.ownsRow.turned h1 ht (own_own_ne h1 ho1 (by decide))
    · obtain rfl : y = _ := by simpa using hy
      exact World.ownsRow.turned hB ht (own_own_ne hB ho1 (by decide))
  · intro k hk
    rcases hat with e | e
    · exact h.new k (e.symm.trans hk)
    · have e2 := e.symm.trans hk
      have : k = w1.heap.size + 1 := by simpa using e2.symm
      have := h01.size
      omega

set_option maxRecDepth 100000 in
set_option maxHeartbeats 4000000 in
theorem nodes_any (w : World) (lv : Value) (K : List Nd) (hR : NdRd w lv K) (hl : K.length ≤ 4000) (hl2 : ∀ x ∈ K, x.args.length ≤ 6) :
    Calls Try.prog 75 #[lv] w fun e w' => ∃ u M, e = .returned u ∧ NodesI w w' u M ∧ M.map (·.1) = K := by
  have HR := Lib.hid hR; have HL := Lib.hid hl2
  obtain ⟨A, c, rfl, _⟩ := hR
  obtain ⟨i0, hi0, hz0, hz1, hz2⟩ := info_parts info53
  have HI : Hid (Try.prog.info? 53 = some i0 ∧ i0.zero = some (.agg #[.int .i64 0, .slice none 0 0, .int .i64 0, .bool false, .int .i64 0]) ∧ i0.size = 5 ∧ i0.bytes = 56) := ⟨hi0, hz0, hz1, hz2⟩
  clear hi0 hz0 hz1 hz2 hl2
  go_enter Try.func75, Try.ntmps75
  go_wp2_with fail
  go_loopw [3, 4] (fun u a wr => ∃ k : Nat, ∃ M : List NV, k ≤ K.length ∧ a = .int .i64 k ∧ Hid (NodesI w wr u M ∧ M.map (·.1) = K.take k)) (fun _ a _ => K.length - (intOf a).toNat)
  case atStart => exact ⟨0, [], Nat.zero_le _, rfl, ⟨Turned.refl _ _, World.ownsRow_nil _ _ _ _, fun x hx => by simp at hx, fun k hk => by simp [Value.ownBlock] at hk⟩, rfl⟩
  case round =>
    obtain ⟨k, M, hk, rfl, HV⟩ := hrel
    have hMl : M.length = k := by have := congrArg List.length HV.out.2; simp at this; omega
    by_cases hlt : k < K.length
    · have hx0 : K[k]? = some K[k] := by simp [hlt]
      have hla := HL.out K[k] (List.getElem_mem _)
      have HTk : Hid (K.take (k + 1) = K.take k ++ [K[k]]) := List.take_succ_eq_append_getElem hlt
      obtain ⟨⟨sy, ar, mk, po, tt⟩, hx⟩ : ∃ x, x = K[k] := ⟨_, rfl⟩
      rw [← hx] at hx0 hla HTk
      simp only at hla
      obtain ⟨bl, off, c', aA, ac, e, a0, a1, a2, a3, a4, hRa, _⟩ := HR.out.get HV.out.1.same k _ hx0
      injection e with e1 _ e2
      subst e1; subst e2
      simp only at a0 a1 a2 a3 a4 hRa
      have HRa := Lib.hid hRa
      have hk0 : (0 : Int) ≤ k := by omega
      have hk1 : (k : Int) < K.length := by omega
      clear hx0 hx hRa
      go_wp2_with fail
      have hs1 : Same wr (wr.alloc (.cells #[.int .i64 sy, .slice aA ar.length ac, .int .i64 mk, .bool po, .int .i64 tt] 53)) := (Turned.refl _ _).alloc _
      refine (copied_any _ _ ar (HRa.out.same_ (HV.out.1.same.trans hs1 (fun _ h => h.elim))) (by omega)).mono ?_
      rintro e w2 ⟨a5, c5, rfl, ho5, hs5⟩
      have hB2 : Blk w2 wr.heap.size 53 #[.int .i64 sy, .slice aA ar.length ac, .int .i64 mk, .bool po, .int .i64 tt] := (Blk.new wr 53 _).turned hs5 (fun h => h)
      obtain ⟨b0, b1, b2, b3, b4⟩ := hB2.five
      have hbl := hB2.lt
      have hbf := fun i => hB2.frozen i
      have hset : Turned (fun k => k = wr.heap.size) w2 (w2.setCell ⟨wr.heap.size, 1, none⟩ (.slice a5 ar.length c5)) := Turned.setCell (S := fun k => k = wr.heap.size) (Turned.refl _ w2) (p := ⟨wr.heap.size, 1, none⟩) (.inl rfl) _
      have HS2 : Hid (Same wr (w2.setCell ⟨wr.heap.size, 1, none⟩ (.slice a5 ar.length c5))) := by
        have h1 := (hs1.trans hs5 (fun _ h => h.elim)).trans hset (S := fun _ => False) (fun i hi => .inr (by omega))
        exact h1
      have HB5 : Hid ((w2.setCell ⟨wr.heap.size, 1, none⟩ (.slice a5 ar.length c5)).ownsRow 0 3 1 (.slice a5 ar.length c5) ar.length (nInts ar)) := World.ownsRow.turned ho5 hset (fun k hk e => own_blk_ne ho5 hB2 (by decide) (by rw [hk, e]))
      have hB3 : Blk (w2.setCell ⟨wr.heap.size, 1, none⟩ (.slice a5 ar.length c5)) wr.heap.size 53 #[.int .i64 sy, .slice a5 ar.length c5, .int .i64 mk, .bool po, .int .i64 tt] := (hB2.set_ 1 (.slice a5 ar.length c5)).trans rfl
      obtain ⟨d0, d1, d2, d3, d4⟩ := hB3.five
      clear hs1 hs5 ho5 hB2 hB3 hset a0 a1 a2 a3 a4 b0 b2 b3 b4
      obtain ⟨ua, uc, rfl, _, _⟩ := own_shape HV.out.1.own
      obtain ⟨an, han⟩ : ∃ an, an = ar.length := ⟨_, rfl⟩
      have HHan := Lib.hid han
      rw [← han] at d1 b1 ⊢
      rw [← han] at HB5 HS2 d0 d2 d3 d4
      clear han
      have HO : Hid ((w2.setCell ⟨wr.heap.size, 1, none⟩ (.slice a5 an c5)).ownsRow 0 53 5 (.slice ua M.length uc) M.length (nall M)) := World.ownsRow.same_ HV.out.1.own HS2.out
      rw [hMl] at HO ⊢
      go_upto_region 7 with fail
      have HSz : Hid ((w2.setCell ⟨wr.heap.size, 1, none⟩ (.slice a5 an c5)).heap.size = w2.heap.size) := by simp [Hid, World.setCell]
      generalize hw1 : w2.setCell ⟨wr.heap.size, 1, none⟩ (.slice a5 an c5) = w1 at HSz HO HB5 HS2 d0 d1 d2 d3 d4 ⊢
      clear hw1 b1 hbf
      go_wp2_with (at_builtin; go_loud (refine wpList_append_src _ rfl _ _ 23 rfl 53 i0 _ 5 56 Try.underlying23 HI.out.1 HI.out.2.1 HI.out.2.2.1 HI.out.2.2.2 rfl (by omega) (.slice ua k uc) k (nall M) rfl (by exact HO.out.alloc _) (some ⟨w1.heap.size, 0, none⟩) 1 1 [.int .i64 sy, .slice a5 an c5, .int .i64 mk, .bool po, .int .i64 tt] rfl rfl (by exact src_new w1 [.int .i64 sy, .slice a5 an c5, .int .i64 mk, .bool po, .int .i64 tt] 53) (by intro u hu; simp at hu; rcases hu with rfl | rfl | rfl | rfl | rfl <;> rfl) (by unfold maxLen; omega) (by omega) ?_))
      intro a2 c2 w3 ho3 hg3 hat3
      have HN : Hid (NodesI w w3 (.slice a2 (k + 1) c2) (M ++ [((⟨sy, ar, mk, po, tt⟩ : Nd), .slice a5 an c5)])) := by
        refine NodesI.next (w1 := w1) (cs := #[.int .i64 sy, .slice a5 an c5, .int .i64 mk, .bool po, .int .i64 tt]) (t := 53) HV.out.1 HS2.out (by rw [← HHan.out]; have h1 := HB5.out; rwa [HHan.out] at h1 ⊢) (by rw [hMl]; exact ho3) (by rw [hMl]; exact hg3) (by rw [World.size_alloc, hMl]; exact hat3)
      have HM2 : Hid ((M ++ [(((⟨sy, ar, mk, po, tt⟩ : Nd), .slice a5 an c5) : NV)]).map (·.1) = K.take (k + 1)) := by
        rw [HTk.out, List.map_append, HV.out.2]; rfl
      clear ho3 hg3 hat3 HV HO d0 d1 d2 d3 d4
      go_wp2_with fail
      go_roundw
      case rel => exact ⟨k + 1, _, by omega, by go_num, HN.out, HM2.out⟩
      case measure => simp [intOf]; omega
    · have hkk : k = K.length := by omega
      subst hkk
      rw [List.take_length] at HV
      obtain ⟨ua, uc, rfl, _, _⟩ := own_shape HV.out.1.own
      go_wp2_with fail
      go_ret
      exact ⟨_, M, rfl, HV.out.1, HV.out.2⟩
end Go.Proofs.Yteohhiefchoamaa
