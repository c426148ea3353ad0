/-
  The walks of Point and Mark.
-/
import Derived.Test.YteohhiefchoamaaRUnder
namespace Go.Proofs.Yteohhiefchoamaa
open Go.RowKit

open Classical in
noncomputable def pointR (K : List Nd) (a t : Int) : Int :=
  if ¬ (0 ≤ a ∧ a < K.length) ∨ ¬ (0 ≤ t ∧ t < K.length) then 112 else if Reach K t.toNat a.toNat then 113 else 0
abbrev pnode (t : Int) : Nd := ⟨0, [], 0, true, t⟩
noncomputable def pointK (K : List Nd) (a t : Int) : List Nd := if pointR K a t = 0 then K.set a.toNat (pnode t) else K
def markR (K : List Nd) (a m : Int) : Int :=
  if ¬ (0 ≤ a ∧ a < K.length) then 112 else match K[a.toNat]? with
    | none => 112
    | some x => if x.points then 112 else if m < 0 ∨ 2 < m then 1 else 0
def markK (K : List Nd) (a m : Int) : List Nd := if markR K a m = 0 then (match K[a.toNat]? with | none => K | some x => K.set a.toNat ⟨x.sym, x.args, m, x.points, x.to⟩) else K

theorem nall_cons (x : NV) (r : List NV) : nall (x :: r) = .int .i64 x.1.sym :: x.2 :: .int .i64 x.1.mark :: .bool x.1.points :: .int .i64 x.1.to :: nall r := by simp [nall, ncells]
theorem nall_set5 : ∀ (N : List NV) (j : Nat) (y : NV), nall (N.set j y) = (((((nall N).set (j * 5) (.int .i64 y.1.sym)).set (j * 5 + 1) y.2).set (j * 5 + 2) (.int .i64 y.1.mark)).set (j * 5 + 3) (.bool y.1.points)).set (j * 5 + 4) (.int .i64 y.1.to)
  | [], j, y => by simp [nall]
  | x :: r, 0, y => by simp only [List.set_cons_zero, nall_cons]; rfl
  | x :: r, j + 1, y => by
    have ih := nall_set5 r j y
    have e0 : (j + 1) * 5 = j * 5 + 1 + 1 + 1 + 1 + 1 := by omega
    simp only [List.set_cons_succ, nall_cons, e0, ih]
theorem nall_set2 : ∀ (N : List NV) (j : Nat) (h : j < N.length) (m : Int), nall (N.set j (⟨N[j].1.sym, N[j].1.args, m, N[j].1.points, N[j].1.to⟩, N[j].2)) = (nall N).set (j * 5 + 2) (.int .i64 m)
  | [], j, h, m => by simp at h
  | x :: r, 0, h, m => by simp only [List.getElem_cons_zero, List.set_cons_zero, nall_cons]; rfl
  | x :: r, j + 1, h, m => by
    have ih := nall_set2 r j (by simpa using h) m
    simp only [List.getElem_cons_succ, List.set_cons_succ, nall_cons, ih, show (j + 1) * 5 + 2 = j * 5 + 2 + 1 + 1 + 1 + 1 + 1 from by omega]
theorem row_set5 {w : World} {g c : Nat} {N : List NV} (h : w.ownsRow 0 53 5 (.slice (some ⟨g, 0, none⟩) N.length c) N.length (nall N)) (j : Nat) (y : NV) :
    (((((w.setCell ⟨g, j * 5, none⟩ (.int .i64 y.1.sym)).setCell ⟨g, j * 5 + 1, none⟩ y.2).setCell ⟨g, j * 5 + 2, none⟩ (.int .i64 y.1.mark)).setCell ⟨g, j * 5 + 3, none⟩ (.bool y.1.points)).setCell ⟨g, j * 5 + 4, none⟩ (.int .i64 y.1.to)).ownsRow 0 53 5 (.slice (some ⟨g, 0, none⟩) N.length c) (N.set j y).length (nall (N.set j y)) := by
  rw [nall_set5, List.length_set]
  exact (World.ownsRow.stored (World.ownsRow.stored (World.ownsRow.stored (World.ownsRow.stored (World.ownsRow.stored h _ _).1 _ _).1 _ _).1 _ _).1 _ _).1
theorem set5_off (w : World) (g k : Nat) (a b c d e : Value) : Turned (fun i => i = g) w (((((w.setCell ⟨g, k, none⟩ a).setCell ⟨g, k + 1, none⟩ b).setCell ⟨g, k + 2, none⟩ c).setCell ⟨g, k + 3, none⟩ d).setCell ⟨g, k + 4, none⟩ e) :=
  (((((Turned.refl (fun i => i = g) w).setCell (p := ⟨g, k, none⟩) (.inl rfl) a).setCell (p := ⟨g, k + 1, none⟩) (.inl rfl) b).setCell (p := ⟨g, k + 2, none⟩) (.inl rfl) c).setCell (p := ⟨g, k + 3, none⟩) (.inl rfl) d).setCell (p := ⟨g, k + 4, none⟩) (.inl rfl) e
theorem heap_point {w : World} {b g c j : Nat} {room t : Int} {N : List NV} (h : HeapAt w b room (.slice (some ⟨g, 0, none⟩) N.length c) N) :
    HeapAt (((((w.setCell ⟨g, j * 5, none⟩ (.int .i64 0)).setCell ⟨g, j * 5 + 1, none⟩ (.slice none 0 0)).setCell ⟨g, j * 5 + 2, none⟩ (.int .i64 0)).setCell ⟨g, j * 5 + 3, none⟩ (.bool true)).setCell ⟨g, j * 5 + 4, none⟩ (.int .i64 t)) b room (.slice (some ⟨g, 0, none⟩) N.length c) (N.set j (pnode t, .slice none 0 0)) := by
  have ht := set5_off w g (j * 5) (.int .i64 0) (.slice none 0 0) (.int .i64 0) (.bool true) (.int .i64 t)
  refine ⟨h.blk.turned ht (fun e => own_blk_ne h.own h.blk (by decide) (by rw [e]; rfl)), row_set5 h.own j (pnode t, .slice none 0 0), fun x hx => ?_⟩
  rcases List.mem_or_eq_of_mem_set hx with h1 | rfl
  · exact (h.args x h1).turned ht (fun k hk e => arg_own_ne (h.args x h1) h.own k hk (by rw [e]; rfl))
  · exact .inl ⟨rfl, rfl⟩
theorem rheap_point {w : World} {r g c j : Nat} {room t : Int} {N : List NV} (h : RHeap w r room (.slice (some ⟨g, 0, none⟩) N.length c) N) :
    RHeap (((((w.setCell ⟨g, j * 5, none⟩ (.int .i64 0)).setCell ⟨g, j * 5 + 1, none⟩ (.slice none 0 0)).setCell ⟨g, j * 5 + 2, none⟩ (.int .i64 0)).setCell ⟨g, j * 5 + 3, none⟩ (.bool true)).setCell ⟨g, j * 5 + 4, none⟩ (.int .i64 t)) r room (.slice (some ⟨g, 0, none⟩) N.length c) (N.set j (pnode t, .slice none 0 0)) := by
  have ht := set5_off w g (j * 5) (.int .i64 0) (.slice none 0 0) (.int .i64 0) (.bool true) (.int .i64 t)
  refine ⟨h.blk.turned ht (fun e => own_blk_ne h.own h.blk (by decide) (by rw [e]; rfl)), row_set5 h.own j (pnode t, .slice none 0 0), fun x hx => ?_⟩
  rcases List.mem_or_eq_of_mem_set hx with h1 | rfl
  · exact World.ownsRow.turned (h.args x h1) ht (fun k hk e => own_own_ne (h.args x h1) h.own (by decide) k hk (by rw [e]; rfl))
  · exact World.ownsRow_nil _ _ _ _
theorem heap_mark {w : World} {b g c j : Nat} {room m : Int} {N : List NV} (h : HeapAt w b room (.slice (some ⟨g, 0, none⟩) N.length c) N) (hj : j < N.length) :
    HeapAt (w.setCell ⟨g, j * 5 + 2, none⟩ (.int .i64 m)) b room (.slice (some ⟨g, 0, none⟩) N.length c) (N.set j (⟨N[j].1.sym, N[j].1.args, m, N[j].1.points, N[j].1.to⟩, N[j].2)) := by
  have ht : Turned (fun k => k = g) w (w.setCell ⟨g, j * 5 + 2, none⟩ (.int .i64 m)) := Turned.setCell (S := fun k => k = g) (Turned.refl _ w) (p := ⟨g, j * 5 + 2, none⟩) (.inl rfl) _
  refine ⟨h.blk.turned ht (fun e => own_blk_ne h.own h.blk (by decide) (by rw [e]; rfl)), ?_, fun x hx => ?_⟩
  · rw [nall_set2 N j hj m, List.length_set]; exact (World.ownsRow.stored h.own _ _).1
  · rcases List.mem_or_eq_of_mem_set hx with h1 | rfl
    · exact (h.args x h1).turned ht (fun k hk e => arg_own_ne (h.args x h1) h.own k hk (by rw [e]; rfl))
    · have h1 := h.args N[j] (List.getElem_mem _)
      exact h1.turned ht (fun k hk e => arg_own_ne h1 h.own k hk (by rw [e]; rfl))
theorem rheap_mark {w : World} {r g c j : Nat} {room m : Int} {N : List NV} (h : RHeap w r room (.slice (some ⟨g, 0, none⟩) N.length c) N) (hj : j < N.length) :
    RHeap (w.setCell ⟨g, j * 5 + 2, none⟩ (.int .i64 m)) r room (.slice (some ⟨g, 0, none⟩) N.length c) (N.set j (⟨N[j].1.sym, N[j].1.args, m, N[j].1.points, N[j].1.to⟩, N[j].2)) := by
  have ht : Turned (fun k => k = g) w (w.setCell ⟨g, j * 5 + 2, none⟩ (.int .i64 m)) := Turned.setCell (S := fun k => k = g) (Turned.refl _ w) (p := ⟨g, j * 5 + 2, none⟩) (.inl rfl) _
  refine ⟨h.blk.turned ht (fun e => own_blk_ne h.own h.blk (by decide) (by rw [e]; rfl)), ?_, fun x hx => ?_⟩
  · rw [nall_set2 N j hj m, List.length_set]; exact (World.ownsRow.stored h.own _ _).1
  · rcases List.mem_or_eq_of_mem_set hx with h1 | rfl
    · exact World.ownsRow.turned (h.args x h1) ht (fun k hk e => own_own_ne (h.args x h1) h.own (by decide) k hk (by rw [e]; rfl))
    · have h1 := h.args N[j] (List.getElem_mem _)
      exact World.ownsRow.turned h1 ht (fun k hk e => own_own_ne h1 h.own (by decide) k hk (by rw [e]; rfl))

def PointRes (w : World) (b : Nat) (room : Int) (v : Value) (N : List NV) (a t : Int) (e : Ending) (w' : World) : Prop :=
  e = .returned (.int .i64 (pointR (N.map (·.1)) a t)) ∧ ∃ N', HeapAt w' b room v N' ∧ N'.map (·.1) = pointK (N.map (·.1)) a t ∧ Turned (fun k => v.ownBlock = some k) w w'
theorem point_bad {K : List Nd} {a t : Int} (h : ¬ (0 ≤ a ∧ a < K.length) ∨ ¬ (0 ≤ t ∧ t < K.length)) : pointR K a t = 112 ∧ pointK K a t = K := by
  have e : pointR K a t = 112 := by unfold pointR; rw [if_pos h]
  exact ⟨e, by unfold pointK; rw [e, if_neg (by decide)]⟩

theorem point_ring {K : List Nd} {j q : Nat} (hj : j < K.length) (hq : q < K.length) (h : Reach K q j) : pointR K j q = 113 ∧ pointK K j q = K := by
  have e : pointR K j q = 113 := by
    unfold pointR
    rw [if_neg (by omega), Int.toNat_natCast, Int.toNat_natCast, if_pos h]
  exact ⟨e, by unfold pointK; rw [e, if_neg (by decide)]⟩
theorem point_good {K : List Nd} {j q : Nat} (hj : j < K.length) (hq : q < K.length) (h : ¬ Reach K q j) : pointR K j q = 0 ∧ pointK K j q = K.set j (pnode q) := by
  have e : pointR K j q = 0 := by
    unfold pointR
    rw [if_neg (by omega), Int.toNat_natCast, Int.toNat_natCast, if_neg h]
  exact ⟨e, by unfold pointK; rw [e, if_pos rfl, Int.toNat_natCast]⟩
theorem point_keeps {K : List Nd} (hr : Ranked K) (hok : ∀ x ∈ K, NodeOk x) (a t : Int) : Ranked (pointK K a t) ∧ (∀ x ∈ pointK K a t, NodeOk x) ∧ (pointK K a t).length = K.length := by
  by_cases h : pointR K a t = 0
  · have h2 := h
    unfold pointR at h2
    split at h2
    · cases h2
    · split at h2
      · cases h2
      · rename_i g1 g2
        obtain ⟨j, rfl⟩ : ∃ j : Nat, a = (j : Int) := ⟨a.toNat, by omega⟩
        obtain ⟨q, rfl⟩ : ∃ q : Nat, t = (q : Int) := ⟨t.toNat, by omega⟩
        rw [Int.toNat_natCast, Int.toNat_natCast] at g2
        rw [(point_good (by omega) (by omega) g2).2]
        refine ⟨ranked_point hr (by omega) g2 _ rfl, fun x hx => ?_, by simp⟩
        rcases List.mem_or_eq_of_mem_set hx with h1 | rfl
        · exact hok x h1
        · exact ⟨by simp, fun _ => rfl, by simp⟩
  · have e : pointK K a t = K := by unfold pointK; rw [if_neg h]
    rw [e]
    exact ⟨hr, hok, rfl⟩
theorem mark_keeps {K : List Nd} (hr : Ranked K) (hok : ∀ x ∈ K, NodeOk x) (a m : Int) : Ranked (markK K a m) ∧ (∀ x ∈ markK K a m, NodeOk x) ∧ (markK K a m).length = K.length := by
  unfold markK
  split
  · rename_i h
    split
    · exact ⟨hr, hok, rfl⟩
    · rename_i x hx
      have hm : 0 ≤ m := by
        unfold markR at h
        split at h
        · cases h
        · rw [hx] at h
          simp only at h
          split at h
          · cases h
          · split at h
            · cases h
            · omega
      have hxm := hok x (List.mem_of_getElem? hx)
      refine ⟨ranked_same hr _ (fun y hy => ?_), fun y hy => ?_, by simp⟩
      · rw [hx] at hy
        injection hy with hy
        subst hy
        rfl
      · rcases List.mem_or_eq_of_mem_set hy with h1 | rfl
        · exact hok y h1
        · exact ⟨hxm.a6, hxm.pt, hm⟩
  · exact ⟨hr, hok, rfl⟩

set_option maxHeartbeats 4000000 in
theorem point_any (w : World) (b : Nat) (room : Int) (v : Value) (N : List NV) (h : HeapAt w b room v N) (hr : Ranked (N.map (·.1))) (hok : ∀ x ∈ N.map (·.1), NodeOk x) (hl : N.length ≤ 4000) (a t : Int) :
    Calls Try.prog 24 #[.pointer (some ⟨b, 0, none⟩), .int .i64 a, .int .i64 t] w fun e w' => PointRes w b room v N a t e w' := by
  have H := Lib.hid h; have HR := Lib.hid hr; have HOk := Lib.hid hok
  clear h hr hok
  by_cases ha : 0 ≤ a ∧ a < (N.length : Int)
  · obtain ⟨j, rfl⟩ : ∃ j : Nat, a = (j : Int) := ⟨a.toNat, by omega⟩
    have hj : j < N.length := by omega
    by_cases ht : 0 ≤ t ∧ t < (N.length : Int)
    · obtain ⟨q, rfl⟩ : ∃ q : Nat, t = (q : Int) := ⟨t.toNat, by omega⟩
      have hq : q < N.length := by omega
      have ha0 : j < (N.map (·.1)).length := by simpa using hj
      have hq0 : q < (N.map (·.1)).length := by simpa using hq
      have HJ := Lib.hid hj; have HQ := Lib.hid hq
      clear ha ht hj hq
      go_enter Try.func24, Try.ntmps24
      go_wp2_with fail
      refine (has_yes _ b room v N H.out j HJ.out).mono ?_
      rintro e w1 ⟨rfl, rfl⟩
      go_wp2_with fail
      refine (has_yes _ b room v N H.out q HQ.out).mono ?_
      rintro e w1 ⟨rfl, rfl⟩
      go_wp2_with fail
      refine (under_any _ b room v N H.out HR.out HOk.out hl q j HQ.out).mono ?_
      rintro e w1 ⟨⟨bb, rfl, hbb⟩, hs1⟩
      have HBb := Lib.hid hbb; have HS1 := Lib.hid hs1; have HH1 := Lib.hid (H.out.same hs1)
      clear hbb hs1
      cases bb with
      | true =>
        have HRe : Hid (Reach (N.map (·.1)) q j) := HBb.out.1 rfl
        go_wp2_with fail
        go_ret
        have e := point_ring ha0 hq0 HRe.out
        exact ⟨by rw [e.1]; rfl, N, HH1.out, by rw [e.2], HS1.out.mono (fun _ h => h.elim)⟩
      | false =>
        have HRe : Hid (¬ Reach (N.map (·.1)) q j) := fun h => by have := HBb.out.2 h; cases this
        obtain ⟨va, vc, rfl, _, _⟩ := own_shape HH1.out.own
        obtain ⟨hg, rfl, d0, d1, d2, d3, d4⟩ := HH1.out.at_ j HJ.out
        have hb1 := HH1.out.blk.cell 1
        simp at hb1
        have hfz := fun i => World.ownsRow.frozenAt HH1.out.own i
        have hgl : hg < w1.heap.size := own_lt HH1.out.own rfl
        have hj0 : (0 : Int) ≤ j := by omega
        have hj1 : (j : Int) < N.length := by have := HJ.out; omega
        go_wp2_with fail
        go_ret
        have e := point_good (K := N.map (·.1)) ha0 hq0 HRe.out
        refine ⟨by rw [e.1]; rfl, _, heap_point HH1.out, ?_, (HS1.out.mono (fun _ h => h.elim)).trans (set5_off w1 hg (j * 5) (.int .i64 0) (.slice none 0 0) (.int .i64 0) (.bool true) (.int .i64 q)) (fun i hi => .inl (by rw [hi]; rfl))⟩
        rw [e.2, List.map_set]
    · have e := point_bad (K := N.map (·.1)) (a := (j : Int)) (t := t) (.inr (by rw [List.length_map]; exact ht))
      have HE := Lib.hid e
      have HJ := Lib.hid hj
      have ht2 : t < 0 ∨ (N.length : Int) ≤ t := by omega
      clear e ha ht hj
      go_enter Try.func24, Try.ntmps24
      go_wp2_with fail
      refine (has_yes _ b room v N H.out j HJ.out).mono ?_
      rintro e w1 ⟨rfl, rfl⟩
      go_wp2_with fail
      refine (has_no _ b room v N H.out t ht2).mono ?_
      rintro e w1 ⟨rfl, rfl⟩
      go_wp2_with fail
      go_ret
      exact ⟨by rw [HE.out.1]; rfl, N, H.out, by rw [HE.out.2], Turned.refl _ _⟩
  · have e := point_bad (K := N.map (·.1)) (a := a) (t := t) (.inl (by rw [List.length_map]; exact ha))
    have HE := Lib.hid e
    have ha2 : a < 0 ∨ (N.length : Int) ≤ a := by omega
    clear e ha
    go_enter Try.func24, Try.ntmps24
    go_wp2_with fail
    refine (has_no _ b room v N H.out a ha2).mono ?_
    rintro e w1 ⟨rfl, rfl⟩
    go_wp2_with fail
    go_ret
    exact ⟨by rw [HE.out.1]; rfl, N, H.out, by rw [HE.out.2], Turned.refl _ _⟩

def MarkRes (w : World) (b : Nat) (room : Int) (v : Value) (N : List NV) (a m : Int) (e : Ending) (w' : World) : Prop :=
  e = .returned (.int .i64 (markR (N.map (·.1)) a m)) ∧ ∃ N', HeapAt w' b room v N' ∧ N'.map (·.1) = markK (N.map (·.1)) a m ∧ Turned (fun k => v.ownBlock = some k) w w'
theorem mark_none {K : List Nd} {a m : Int} (h : ¬ (0 ≤ a ∧ a < K.length)) : markR K a m = 112 ∧ markK K a m = K := by
  have e : markR K a m = 112 := by unfold markR; rw [if_pos h]
  exact ⟨e, by unfold markK; rw [e, if_neg (by decide)]⟩
theorem mark_some {K : List Nd} {j : Nat} {m : Int} {x : Nd} (hx : K[j]? = some x) : markR K j m = (if x.points then 112 else if m < 0 ∨ 2 < m then 1 else 0) ∧ (x.points = false → 0 ≤ m → m ≤ 2 → markK K j m = K.set j ⟨x.sym, x.args, m, x.points, x.to⟩) ∧ ((x.points = true ∨ m < 0 ∨ 2 < m) → markK K j m = K) := by
  have hj : j < K.length := (List.getElem?_eq_some_iff.1 hx).1
  have e : markR K j m = (if x.points then 112 else if m < 0 ∨ 2 < m then 1 else 0) := by
    unfold markR
    rw [if_neg (by omega), Int.toNat_natCast, hx]
  refine ⟨e, fun h1 h2 h3 => ?_, fun h => ?_⟩
  · have e0 : markR K j m = 0 := by rw [e, h1, if_neg (by simp), if_neg (by omega)]
    unfold markK
    rw [e0, if_pos rfl, Int.toNat_natCast, hx]
  · have e0 : markR K j m ≠ 0 := by
      rw [e]
      rcases h with h | h
      · rw [h, if_pos rfl]; decide
      · split
        · decide
        · decide
    unfold markK
    rw [if_neg e0]

set_option maxHeartbeats 4000000 in
theorem mark_any (w : World) (b : Nat) (room : Int) (v : Value) (N : List NV) (h : HeapAt w b room v N) (a m : Int) :
    Calls Try.prog 26 #[.pointer (some ⟨b, 0, none⟩), .int .i64 a, .int .i64 m] w fun e w' => MarkRes w b room v N a m e w' := by
  have H := Lib.hid h
  by_cases ha : 0 ≤ a ∧ a < (N.length : Int)
  · obtain ⟨j, rfl⟩ : ∃ j : Nat, a = (j : Int) := ⟨a.toNat, by omega⟩
    have hj : j < N.length := by omega
    have HJ := Lib.hid hj
    obtain ⟨va, vc, rfl, _, _⟩ := own_shape h.own
    obtain ⟨hg, rfl, d0, d1, d2, d3, d4⟩ := h.at_ j HJ.out
    have hKj : (N.map (·.1))[j]? = some (N[j]'HJ.out).1 := by rw [List.getElem?_map, List.getElem?_eq_getElem HJ.out]; rfl
    have HE := Lib.hid (mark_some (m := m) hKj)
    have hb1 : w.cell? ⟨b, 1, none⟩ = some (.slice (some ⟨hg, 0, none⟩) N.length vc) := (h.blk.cell 1).trans rfl
    have hfz := fun i => World.ownsRow.frozenAt h.own i
    have hgl : hg < w.heap.size := own_lt h.own rfl
    have hj0 : (0 : Int) ≤ j := by omega
    have hj1 : (j : Int) < N.length := by omega
    obtain ⟨mk, hmk⟩ : ∃ mk, mk = (N[j]'HJ.out).1.mark := ⟨_, rfl⟩
    rw [← hmk] at d2
    obtain ⟨po, hpo⟩ : ∃ po, po = (N[j]'HJ.out).1.points := ⟨_, rfl⟩
    have HPo := Lib.hid hpo
    rw [← hpo] at d3
    clear h ha hj hKj d0 d1 d4 hmk hpo
    cases po with
    | true =>
      go_enter Try.func26, Try.ntmps26
      go_wp2_with fail
      refine (has_yes _ b room _ N H.out j HJ.out).mono ?_
      rintro e w1 ⟨rfl, rfl⟩
      go_wp2_with fail
      go_ret
      exact ⟨by rw [HE.out.1, ← HPo.out]; rfl, N, H.out, by rw [HE.out.2.2 (.inl HPo.out.symm)], Turned.refl _ _⟩
    | false =>
      by_cases hm : m < 0 ∨ 2 < m
      · have HEm : Hid (markR (N.map (·.1)) j m = 1 ∧ markK (N.map (·.1)) j m = N.map (·.1)) := ⟨by rw [HE.out.1, ← HPo.out, if_neg (by decide), if_pos hm], HE.out.2.2 (.inr hm)⟩
        rcases hm with hm | hm
        all_goals
          go_enter Try.func26, Try.ntmps26
          go_wp2_with fail
          refine (has_yes _ b room _ N H.out j HJ.out).mono ?_
          rintro e w1 ⟨rfl, rfl⟩
          go_wp2_with fail
          go_ret
          exact ⟨by rw [HEm.out.1]; rfl, N, H.out, by rw [HEm.out.2], Turned.refl _ _⟩
      · have hm0 : 0 ≤ m := by omega
        have hm2 : m ≤ 2 := by omega
        have HEm : Hid (markR (N.map (·.1)) j m = 0 ∧ markK (N.map (·.1)) j m = (N.map (·.1)).set j ⟨(N[j]'HJ.out).1.sym, (N[j]'HJ.out).1.args, m, (N[j]'HJ.out).1.points, (N[j]'HJ.out).1.to⟩) := ⟨by rw [HE.out.1, ← HPo.out, if_neg (by decide), if_neg (by omega)], HE.out.2.1 HPo.out.symm hm0 hm2⟩
        clear hm
        go_enter Try.func26, Try.ntmps26
        go_wp2_with fail
        refine (has_yes _ b room _ N H.out j HJ.out).mono ?_
        rintro e w1 ⟨rfl, rfl⟩
        go_wp2_with fail
        go_ret
        exact ⟨by rw [HEm.out.1]; rfl, _, heap_mark H.out HJ.out, by rw [HEm.out.2, List.map_set], Turned.setCell (S := fun k => some hg = some k) (Turned.refl _ _) (p := ⟨hg, j * 5 + 2, none⟩) (.inl rfl) _⟩
  · have e := mark_none (K := N.map (·.1)) (a := a) (m := m) (by rw [List.length_map]; exact ha)
    have HE := Lib.hid e
    have ha2 : a < 0 ∨ (N.length : Int) ≤ a := by omega
    clear e ha h
    go_enter Try.func26, Try.ntmps26
    go_wp2_with fail
    refine (has_no _ b room v N H.out a ha2).mono ?_
    rintro e w1 ⟨rfl, rfl⟩
    go_wp2_with fail
    go_ret
    exact ⟨by rw [HE.out.1]; rfl, N, H.out, by rw [HE.out.2], Turned.refl _ _⟩

def RPointRes (w : World) (b : Nat) (room : Int) (v : Value) (N : List NV) (a t : Int) (e : Ending) (w' : World) : Prop :=
  e = .returned (.int .i64 (pointR (N.map (·.1)) a t)) ∧ ∃ N', RHeap w' b room v N' ∧ N'.map (·.1) = pointK (N.map (·.1)) a t ∧ Turned (fun k => v.ownBlock = some k) w w'
def RMarkRes (w : World) (b : Nat) (room : Int) (v : Value) (N : List NV) (a m : Int) (e : Ending) (w' : World) : Prop :=
  e = .returned (.int .i64 (markR (N.map (·.1)) a m)) ∧ ∃ N', RHeap w' b room v N' ∧ N'.map (·.1) = markK (N.map (·.1)) a m ∧ Turned (fun k => v.ownBlock = some k) w w'
theorem RHeap.at_ {w : World} {b : Nat} {room : Int} {a : Option Addr} {c : Nat} {N : List NV} (h : RHeap w b room (.slice a N.length c) N) (k : Nat) (hk : k < N.length) :
    ∃ g, a = some ⟨g, 0, none⟩ ∧ w.cell? ⟨g, k * 5, none⟩ = some (.int .i64 N[k].1.sym) ∧ w.cell? ⟨g, k * 5 + 1, none⟩ = some N[k].2 ∧ w.cell? ⟨g, k * 5 + 2, none⟩ = some (.int .i64 N[k].1.mark) ∧ w.cell? ⟨g, k * 5 + 3, none⟩ = some (.bool N[k].1.points) ∧ w.cell? ⟨g, k * 5 + 4, none⟩ = some (.int .i64 N[k].1.to) := by
  obtain ⟨g, cap, hv, _, hg⟩ := h.own.form (by omega)
  obtain ⟨rfl, rfl⟩ : a = some ⟨g, 0, none⟩ ∧ c = cap := by simpa using hv
  have hc := h.own.cells (g := g) rfl
  obtain ⟨e0, e1, e2, e3, e4⟩ := nall_at N k hk
  have d0 := hc _ _ e0
  have d1 := hc _ _ e1
  have d2 := hc _ _ e2
  have d3 := hc _ _ e3
  have d4 := hc _ _ e4
  simp only [Addr.add_lit, Nat.zero_add] at d0 d1 d2 d3 d4
  exact ⟨g, rfl, d0, d1, d2, d3, d4⟩

set_option maxHeartbeats 4000000 in
theorem rpoint_any (w : World) (b : Nat) (room : Int) (v : Value) (N : List NV) (h : RHeap w b room v N) (hr : Ranked (N.map (·.1))) (hok : ∀ x ∈ N.map (·.1), NodeOk x) (hl : N.length ≤ 4000) (a t : Int) :
    Calls Try.prog 25 #[.pointer (some ⟨b, 0, none⟩), .int .i64 a, .int .i64 t] w fun e w' => RPointRes w b room v N a t e w' := by
  have H := Lib.hid h; have HR := Lib.hid hr; have HOk := Lib.hid hok
  clear h hr hok
  by_cases ha : 0 ≤ a ∧ a < (N.length : Int)
  · obtain ⟨j, rfl⟩ : ∃ j : Nat, a = (j : Int) := ⟨a.toNat, by omega⟩
    have hj : j < N.length := by omega
    by_cases ht : 0 ≤ t ∧ t < (N.length : Int)
    · obtain ⟨q, rfl⟩ : ∃ q : Nat, t = (q : Int) := ⟨t.toNat, by omega⟩
      have hq : q < N.length := by omega
      have ha0 : j < (N.map (·.1)).length := by simpa using hj
      have hq0 : q < (N.map (·.1)).length := by simpa using hq
      have HJ := Lib.hid hj; have HQ := Lib.hid hq; have HA0 := Lib.hid ha0; have HQ0 := Lib.hid hq0
      have hj0 : (0 : Int) ≤ j := by omega
      have hj1 : (j : Int) < N.length := by omega
      obtain ⟨va, vc, rfl, _, _⟩ := own_shape H.out.own
      have hb1 : w.cell? ⟨b, 1, none⟩ = some (.slice va N.length vc) := (H.out.blk.cell 1).trans rfl
      clear ha ht hj hq ha0 hq0
      go_enter Try.func25, Try.ntmps25
      go_wp2_with fail
      refine (rhas_yes _ b room _ (N.map (·.1)) H.out.rhp j HA0.out).mono ?_
      rintro e w1 ⟨rfl, rfl⟩
      go_wp2_with fail
      refine (rhas_yes _ b room _ (N.map (·.1)) H.out.rhp q HQ0.out).mono ?_
      rintro e w1 ⟨rfl, rfl⟩
      go_wp2_with fail
      have HS0 : Hid (Same w (w.alloc (.cells #[.int .i64 q] 3))) := (Turned.refl _ _).alloc _
      refine (runder_any _ _ (N.map (·.1)) (by exact (H.out.same HS0.out).rhp.rd) HR.out HOk.out (by rw [List.length_map]; exact hl) _ q (rd_lit (P := [(q : Int)]) (Blk.new w 3 _)) HQ0.out).mono ?_
      rintro e w1 ⟨⟨gu, B, rfl, hB, hBl, hBr⟩, hs1⟩
      have HS1 : Hid (Same w w1) := HS0.out.trans hs1 (fun _ h => h.elim)
      have HH1 := Lib.hid (H.out.same HS1.out)
      have hBj : (B[j]? = some true ↔ Reach (N.map (·.1)) q j) := hBr j HA0.out
      obtain ⟨bb, hbb⟩ : ∃ bb, B[j]? = some bb := ⟨B[j]'(by rw [hBl]; exact HA0.out), by simp⟩
      have hcell := nBools_at hB hbb
      rw [hbb] at hBj
      have HBj := Lib.hid hBj
      rw [List.length_map]
      clear hBj hbb hBr hBl hs1 hb1 hB
      cases bb with
      | true =>
        have HRe : Hid (Reach (N.map (·.1)) q j) := HBj.out.1 rfl
        go_wp2_with fail
        go_ret
        have e := point_ring HA0.out HQ0.out HRe.out
        exact ⟨by rw [e.1]; rfl, N, HH1.out, by rw [e.2], HS1.out.mono (fun _ h => h.elim)⟩
      | false =>
        have HRe : Hid (¬ Reach (N.map (·.1)) q j) := fun h => by have := HBj.out.2 h; cases this
        obtain ⟨hg, rfl, d0, d1, d2, d3, d4⟩ := HH1.out.at_ j HJ.out
        have hb1 := HH1.out.blk.cell 1
        simp at hb1
        have hfz := fun i => World.ownsRow.frozenAt HH1.out.own i
        have hgl : hg < w1.heap.size := own_lt HH1.out.own rfl
        go_wp2_with fail
        go_ret
        have e := point_good (K := N.map (·.1)) HA0.out HQ0.out HRe.out
        refine ⟨by rw [e.1]; rfl, _, rheap_point HH1.out, ?_, (HS1.out.mono (fun _ h => h.elim)).trans (set5_off w1 hg (j * 5) (.int .i64 0) (.slice none 0 0) (.int .i64 0) (.bool true) (.int .i64 q)) (fun i hi => .inl (by rw [hi]; rfl))⟩
        rw [e.2, List.map_set]
    · have e := point_bad (K := N.map (·.1)) (a := (j : Int)) (t := t) (.inr (by rw [List.length_map]; exact ht))
      have HE := Lib.hid e
      have HJ : Hid (j < (N.map (·.1)).length) := by simpa [Hid] using hj
      have ht2 : Hid (t < 0 ∨ ((N.map (·.1)).length : Int) ≤ t) := by rw [List.length_map]; unfold Hid; omega
      clear e ha ht hj
      go_enter Try.func25, Try.ntmps25
      go_wp2_with fail
      refine (rhas_yes _ b room v _ H.out.rhp j HJ.out).mono ?_
      rintro e w1 ⟨rfl, rfl⟩
      go_wp2_with fail
      refine (rhas_no _ b room v _ H.out.rhp t ht2.out).mono ?_
      rintro e w1 ⟨rfl, rfl⟩
      go_wp2_with fail
      go_ret
      exact ⟨by rw [HE.out.1]; rfl, N, H.out, by rw [HE.out.2], Turned.refl _ _⟩
  · have e := point_bad (K := N.map (·.1)) (a := a) (t := t) (.inl (by rw [List.length_map]; exact ha))
    have HE := Lib.hid e
    have ha2 : Hid (a < 0 ∨ ((N.map (·.1)).length : Int) ≤ a) := by rw [List.length_map]; unfold Hid; omega
    clear e ha
    go_enter Try.func25, Try.ntmps25
    go_wp2_with fail
    refine (rhas_no _ b room v _ H.out.rhp a ha2.out).mono ?_
    rintro e w1 ⟨rfl, rfl⟩
    go_wp2_with fail
    go_ret
    exact ⟨by rw [HE.out.1]; rfl, N, H.out, by rw [HE.out.2], Turned.refl _ _⟩

set_option maxHeartbeats 4000000 in
theorem rmark_any (w : World) (b : Nat) (room : Int) (v : Value) (N : List NV) (h : RHeap w b room v N) (a m : Int) :
    Calls Try.prog 27 #[.pointer (some ⟨b, 0, none⟩), .int .i64 a, .int .i64 m] w fun e w' => RMarkRes w b room v N a m e w' := by
  have H := Lib.hid h
  by_cases ha : 0 ≤ a ∧ a < (N.length : Int)
  · obtain ⟨j, rfl⟩ : ∃ j : Nat, a = (j : Int) := ⟨a.toNat, by omega⟩
    have hj : j < N.length := by omega
    have HJ := Lib.hid hj
    have HJ2 : Hid (j < (N.map (·.1)).length) := by simpa [Hid] using hj
    obtain ⟨va, vc, rfl, _, _⟩ := own_shape h.own
    obtain ⟨hg, rfl, d0, d1, d2, d3, d4⟩ := h.at_ j HJ.out
    have hKj : (N.map (·.1))[j]? = some (N[j]'HJ.out).1 := by rw [List.getElem?_map, List.getElem?_eq_getElem HJ.out]; rfl
    have HE := Lib.hid (mark_some (m := m) hKj)
    have hb1 : w.cell? ⟨b, 1, none⟩ = some (.slice (some ⟨hg, 0, none⟩) N.length vc) := (h.blk.cell 1).trans rfl
    have hfz := fun i => World.ownsRow.frozenAt h.own i
    have hgl : hg < w.heap.size := own_lt h.own rfl
    have hj0 : (0 : Int) ≤ j := by omega
    have hj1 : (j : Int) < N.length := by omega
    obtain ⟨mk, hmk⟩ : ∃ mk, mk = (N[j]'HJ.out).1.mark := ⟨_, rfl⟩
    rw [← hmk] at d2
    obtain ⟨po, hpo⟩ : ∃ po, po = (N[j]'HJ.out).1.points := ⟨_, rfl⟩
    have HPo := Lib.hid hpo
    rw [← hpo] at d3
    clear h ha hj hKj d0 d1 d4 hmk hpo
    cases po with
    | true =>
      go_enter Try.func27, Try.ntmps27
      go_wp2_with fail
      refine (rhas_yes _ b room _ _ H.out.rhp j HJ2.out).mono ?_
      rintro e w1 ⟨rfl, rfl⟩
      go_wp2_with fail
      go_ret
      exact ⟨by rw [HE.out.1, ← HPo.out]; rfl, N, H.out, by rw [HE.out.2.2 (.inl HPo.out.symm)], Turned.refl _ _⟩
    | false =>
      by_cases hm : m < 0 ∨ 2 < m
      · have HEm : Hid (markR (N.map (·.1)) j m = 1 ∧ markK (N.map (·.1)) j m = N.map (·.1)) := ⟨by rw [HE.out.1, ← HPo.out, if_neg (by decide), if_pos hm], HE.out.2.2 (.inr hm)⟩
        rcases hm with hm | hm
        all_goals
          go_enter Try.func27, Try.ntmps27
          go_wp2_with fail
          refine (rhas_yes _ b room _ _ H.out.rhp j HJ2.out).mono ?_
          rintro e w1 ⟨rfl, rfl⟩
          go_wp2_with fail
          go_ret
          exact ⟨by rw [HEm.out.1]; rfl, N, H.out, by rw [HEm.out.2], Turned.refl _ _⟩
      · have hm0 : 0 ≤ m := by omega
        have hm2 : m ≤ 2 := by omega
        have HEm : Hid (markR (N.map (·.1)) j m = 0 ∧ markK (N.map (·.1)) j m = (N.map (·.1)).set j ⟨(N[j]'HJ.out).1.sym, (N[j]'HJ.out).1.args, m, (N[j]'HJ.out).1.points, (N[j]'HJ.out).1.to⟩) := ⟨by rw [HE.out.1, ← HPo.out, if_neg (by decide), if_neg (by omega)], HE.out.2.1 HPo.out.symm hm0 hm2⟩
        clear hm
        go_enter Try.func27, Try.ntmps27
        go_wp2_with fail
        refine (rhas_yes _ b room _ _ H.out.rhp j HJ2.out).mono ?_
        rintro e w1 ⟨rfl, rfl⟩
        go_wp2_with fail
        go_ret
        exact ⟨by rw [HEm.out.1]; rfl, _, rheap_mark H.out HJ.out, by rw [HEm.out.2, List.map_set], Turned.setCell (S := fun k => some hg = some k) (Turned.refl _ _) (p := ⟨hg, j * 5 + 2, none⟩) (.inl rfl) _⟩
  · have e := mark_none (K := N.map (·.1)) (a := a) (m := m) (by rw [List.length_map]; exact ha)
    have HE := Lib.hid e
    have ha2 : Hid (a < 0 ∨ ((N.map (·.1)).length : Int) ≤ a) := by rw [List.length_map]; unfold Hid; omega
    clear e ha h
    go_enter Try.func27, Try.ntmps27
    go_wp2_with fail
    refine (rhas_no _ b room v _ H.out.rhp a ha2.out).mono ?_
    rintro e w1 ⟨rfl, rfl⟩
    go_wp2_with fail
    go_ret
    exact ⟨by rw [HE.out.1]; rfl, N, H.out, by rw [HE.out.2], Turned.refl _ _⟩
end Go.Proofs.Yteohhiefchoamaa
