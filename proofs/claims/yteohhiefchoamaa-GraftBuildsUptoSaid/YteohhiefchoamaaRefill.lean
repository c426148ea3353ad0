/-
  The walk of heap.Refill.
-/
import Derived.Test.YteohhiefchoamaaRing
namespace Go.Proofs.Yteohhiefchoamaa
open Go.RowKit

/-- What Refill answers, and what the heap is then. -/
def Refilled (w : World) (b : Nat) (room : Int) (K : List Nd) (e : Ending) (w' : World) : Prop :=
  (∃ k : Int, k ≠ 0 ∧ e = .returned (.int .i64 k) ∧ Same w w') ∨
  (e = .returned (.int .i64 0) ∧ ∃ v' M, HeapAt w' b room v' M ∧ M.map (·.1) = K ∧ Turned (fun k => k = b) w w' ∧ (∀ j, v'.ownBlock = some j → w.heap.size ≤ j) ∧ (∀ x ∈ K, MayP x K.length) ∧ (K.length : Int) ≤ room)

theorem World.ownsRow.same_ {w w' : World} {base : Nat} {e : TypeId} {size n : Nat} {v : Value} {xs : List Value} (h : w.ownsRow base e size v n xs) (hs : Same w w') : w'.ownsRow base e size v n xs := World.ownsRow.turned h hs (fun _ _ h => h)
theorem heap_put {w : World} {b : Nat} {room : Int} {v u : Value} {M : List NV} {n : Nat} (hB : Blk w b 113 #[.int .i64 room, v]) (ho : w.ownsRow 0 53 5 u M.length (nall M)) (ha : ∀ x ∈ M, ArgAt w x.2 x.1.args) {A : Option Addr} {c : Nat} (hl : M.length = n) (hu : u = .slice A M.length c) :
    HeapAt (w.setCell ⟨b, 1, none⟩ (.slice A n c)) b room (.slice A n c) M := by
  rw [hl] at hu
  subst hu
  have hset : Turned (fun k => k = b) w (w.setCell ⟨b, 1, none⟩ (.slice A n c)) := Turned.setCell (S := fun k => k = b) (Turned.refl _ w) (p := ⟨b, 1, none⟩) (.inl rfl) _
  exact ⟨(hB.set_ 1 _).trans rfl, World.ownsRow.turned ho hset (fun k hk e => own_blk_ne ho hB (by decide) (by rw [hk, e])), fun x hx => (ha x hx).turned hset (fun k hk e => arg_ne (ha x hx) hB (by decide) (by rw [hk, e]))⟩
set_option maxRecDepth 100000 in
set_option maxHeartbeats 4000000 in
theorem refill_any (w : World) (b : Nat) (room : Int) (v : Value) (N : List NV) (h : HeapAt w b room v N) (hr4 : room ≤ 4000) (lv : Value) (K : List Nd) (hR : NdRd w lv K) (hl2 : ∀ x ∈ K, x.args.length ≤ 17592186044416) :
    Calls Try.prog 45 #[.pointer (some ⟨b, 0, none⟩), lv] w fun e w' => Refilled w b room K e w' := by
  have H := Lib.hid h; have HR := Lib.hid hR; have HL := Lib.hid hl2
  obtain ⟨c0, c1⟩ : w.cell? ⟨b, 0, none⟩ = some (.int .i64 room) ∧ w.cell? ⟨b, 1, none⟩ = some v := ⟨(h.blk.cell 0).trans rfl, (h.blk.cell 1).trans rfl⟩
  obtain ⟨A, c, rfl, _⟩ := hR
  obtain ⟨i0, hi0, hz0, hz1, hz2⟩ := info_parts info53
  have HI : Hid (Try.prog.info? 53 = some i0 ∧ i0.zero = some (.agg #[.int .i64 0, .slice none 0 0, .int .i64 0, .bool false, .int .i64 0]) ∧ i0.size = 5 ∧ i0.bytes = 56) := ⟨hi0, hz0, hz1, hz2⟩
  clear hi0 hz0 hz1 hz2 h hl2 c1
  by_cases hlr : (K.length : Int) > room
  · go_enter Try.func45, Try.ntmps45
    go_wp2_with fail
    go_ret
    exact .inl ⟨111, by decide, rfl, Turned.refl _ _⟩
  have hl4 : K.length ≤ 4000 := by omega
  go_enter Try.func45, Try.ntmps45
  go_wp2_with fail
  clear c0
  go_loopw [5, 19] (fun u a wr => ∃ k : Nat, ∃ M : List NV, k ≤ K.length ∧ a = .int .i64 k ∧ Hid (ToldI w wr u M ∧ M.map (·.1) = K.take k ∧ ∀ x ∈ K.take k, MayP x K.length)) (fun _ a _ => K.length - (intOf a).toNat)
  case atStart => exact ⟨0, [], Nat.zero_le _, rfl, ⟨Turned.refl _ _, World.ownsRow_nil _ _ _ _, fun x hx => by simp at hx, fun k hk => by rcases hk with hk | ⟨y, hy, _⟩; simp [Value.ownBlock] at hk; simp at hy⟩, rfl, by simp⟩
  case round =>
    obtain ⟨k, M, hk, rfl, HV⟩ := hrel
    have hMl : M.length = k := by have := congrArg List.length HV.out.2.1; simp at this; omega
    by_cases hlt : k < K.length
    · have hx0 : K[k]? = some K[k] := by simp [hlt]
      have hla := HL.out K[k] (List.getElem_mem _)
      have HTk : Hid (K.take (k + 1) = K.take k ++ [K[k]]) := List.take_succ_eq_append_getElem hlt
      obtain ⟨⟨sy, ar, mk, po, tt⟩, hx⟩ : ∃ x, x = K[k] := ⟨_, rfl⟩
      rw [← hx] at hx0 hla HTk
      simp only at hla
      obtain ⟨bl, off, c', aA, ac, e, a0, a1, a2, a3, a4, hRa, _⟩ := HR.out.get HV.out.1.same k _ hx0
      injection e with e1 _ e2
      subst e1; subst e2
      simp only at a0 a1 a2 a3 a4 hRa
      have HRa := Lib.hid hRa; have HX := Lib.hid hx0
      have hk0 : (0 : Int) ≤ k := by omega
      have hk1 : (k : Int) < K.length := by omega
      clear hx0 hx hRa
      go_wp2_with fail
      have hs1 : Same wr (wr.alloc (.cells #[.int .i64 sy, .slice aA ar.length ac, .int .i64 mk, .bool po, .int .i64 tt] 53)) := (Turned.refl _ _).alloc _
      have HS1 : Hid (Same w (wr.alloc (.cells #[.int .i64 sy, .slice aA ar.length ac, .int .i64 mk, .bool po, .int .i64 tt] 53))) := HV.out.1.same.trans hs1 (fun _ h => h.elim)
      refine (may_any _ ⟨sy, ar, mk, po, tt⟩ _ (HRa.out.same_ HS1.out) K.length).mono ?_
      rintro e w2 ⟨⟨bm, rfl, hbm⟩, hs2⟩
      have HBm := Lib.hid hbm
      have HS2 : Hid (Same wr w2) := hs1.trans hs2 (fun _ h => h.elim)
      have hB2 : Blk w2 wr.heap.size 53 #[.int .i64 sy, .slice aA ar.length ac, .int .i64 mk, .bool po, .int .i64 tt] := (Blk.new wr 53 _).turned hs2 (fun h => h)
      obtain ⟨b0, b1, b2, b3, b4⟩ := hB2.five
      have hbl := hB2.lt
      clear hs1 hs2 hbm hB2 a0 a1 a2 a3 a4
      cases bm with
      | false =>
        go_wp2_with fail
        go_ret
        exact .inl ⟨114, by decide, rfl, HV.out.1.same.trans HS2.out (fun _ h => h.elim)⟩
      | true =>
        have HM := Lib.hid (HBm.out rfl)
        go_wp2_with fail
        refine (nown_any _ ⟨sy, ar, mk, po, tt⟩ _ (HRa.out.same_ (HV.out.1.same.trans HS2.out (fun _ h => h.elim))) (by have := HM.out.len; simp only at this ⊢; omega)).mono ?_
        rintro e w1 ⟨q, rfl, hB, hs, hq⟩
        have HB := Lib.hid hB
        have HS1' : Hid (Same wr w1) := HS2.out.trans hs (fun _ h => h.elim)
        have HQ : Hid (wr.heap.size ≤ q) := by have := HS2.out.size; unfold Hid; omega
        clear hB hs hq b0 b1 b2 b3 b4 hbl
        obtain ⟨x, hxe⟩ : ∃ x : Nd, x = ⟨sy, ar, mk, po, tt⟩ := ⟨_, rfl⟩
        have HXe := Lib.hid hxe
        obtain ⟨ua, uc, rfl, _, _⟩ := own_shape HV.out.1.own
        obtain ⟨an, han⟩ : ∃ an, an = ar.length := ⟨_, rfl⟩
        have HHan := Lib.hid han
        simp only
        rw [← han]
        clear han hxe
        have HO : Hid (w1.ownsRow 0 53 5 (.slice ua M.length uc) M.length (nall M)) := World.ownsRow.turned HV.out.1.own HS1'.out (fun _ _ h => h)
        rw [hMl] at HO ⊢
        go_wp2_with (at_builtin; go_loud (refine wpList_append_src _ rfl _ _ 23 rfl 53 i0 _ 5 56 Try.underlying23 HI.out.1 HI.out.2.1 HI.out.2.2.1 HI.out.2.2.2 rfl (by omega) (.slice ua k uc) k (nall M) rfl (by exact HO.out.alloc _) (some ⟨w1.heap.size, 0, none⟩) 1 1 [.int .i64 sy, .slice (some ⟨q, 0, none⟩) an an, .int .i64 mk, .bool po, .int .i64 tt] rfl rfl (by exact src_new w1 [.int .i64 sy, .slice (some ⟨q, 0, none⟩) an an, .int .i64 mk, .bool po, .int .i64 tt] 53) (by intro u hu; simp at hu; rcases hu with rfl | rfl | rfl | rfl | rfl <;> rfl) (by unfold maxLen; omega) (by omega) ?_))
        intro a2 c2 w3 ho3 hg3 hat3
        have HN : Hid (ToldI w w3 (.slice a2 (k + 1) c2) (M ++ [((⟨sy, ar, mk, po, tt⟩ : Nd), .slice (some ⟨q, 0, none⟩) ar.length ar.length)])) := by
          refine ToldI.next (w1 := w1) (cs := #[.int .i64 sy, .slice (some ⟨q, 0, none⟩) an an, .int .i64 mk, .bool po, .int .i64 tt]) (t := 53) HV.out.1 HS1'.out HB.out HQ.out ?_ (by rw [hMl]; exact hg3) (by rw [World.size_alloc, hMl]; exact hat3)
          rw [← HHan.out, hMl]; exact ho3
        have HM2 : Hid ((M ++ [(((⟨sy, ar, mk, po, tt⟩ : Nd), .slice (some ⟨q, 0, none⟩) ar.length ar.length) : NV)]).map (·.1) = K.take (k + 1) ∧ ∀ x ∈ K.take (k + 1), MayP x K.length) := by
          refine ⟨by rw [HTk.out, List.map_append, HV.out.2.1]; rfl, fun x hx => ?_⟩
          rw [HTk.out, List.mem_append] at hx
          rcases hx with h1 | h1
          · exact HV.out.2.2 x h1
          · obtain rfl : x = _ := by simpa using h1
            exact HM.out
        clear ho3 hg3 hat3 HV HO
        go_wp2_with fail
        go_roundw
        case rel => exact ⟨k + 1, _, by omega, by go_num, HN.out, HM2.out⟩
        case measure => simp [intOf]; omega
    · have hkk : k = K.length := by omega
      subst hkk
      rw [List.take_length] at HV
      have HT := Lib.hid HV.out.1; have HMa := Lib.hid HV.out.2.1; have HMp := Lib.hid HV.out.2.2
      obtain ⟨ua, uc, rfl, _, _⟩ := own_shape HT.out.own
      have hnd := HT.out.rd
      rw [HMa.out] at hnd
      have HNd := Lib.hid hnd
      clear hnd HV
      go_wp2_with fail
      rw [hMl] at HNd ⊢
      refine (ring_any wr _ K HNd.out (mayp_in HMp.out) hl4 (fun x hx => (HMp.out x hx).len)).mono ?_
      rintro e w2 ⟨⟨bb, rfl⟩, hs2⟩
      have HS2 := Lib.hid hs2
      clear hs2
      cases bb with
      | true =>
        go_wp2_with fail
        go_ret
        exact .inl ⟨113, by decide, rfl, HT.out.same.trans HS2.out (fun _ h => h.elim)⟩
      | false =>
        have hB2 := H.out.blk.turned (HT.out.same.trans HS2.out (fun _ h => h.elim)) (fun h => h)
        have hb1 := hB2.cell 1
        have hbl := hB2.lt
        have hbf := fun i => hB2.frozen i
        simp at hb1
        have HB2 := Lib.hid hB2
        clear hB2
        go_wp2_with fail
        go_ret
        refine .inr ⟨rfl, _, M, heap_put (HB2.out) (World.ownsRow.same_ HT.out.own HS2.out) (fun x hx => (HT.out.args x hx).turned HS2.out (fun _ _ h => h)) hMl rfl, HMa.out, Turned.setCell (S := fun k => k = b) ((HT.out.same.trans HS2.out (fun _ h => h.elim)).mono (fun _ h => h.elim)) (p := ⟨b, 1, none⟩) (.inl rfl) _, fun j hj => HT.out.new j (.inl (by rw [hMl]; exact hj)), HMp.out, by omega⟩
end Go.Proofs.Yteohhiefchoamaa
