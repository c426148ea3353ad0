/-
  The walks of each, with the three method values, and of Path, Nodes, Frames.
-/
import Derived.Test.YthfhjopofpffgaaTale
namespace Go.Proofs.Ythfhjopofpffgaa
open Go.RowKit

structure EInv (w wr : World) (T : Nat) (p : Value) (V : Array Value) (e size n : Nat) (xs : List Value) : Prop where
  tur : Turned (fun k => k = T) w wr
  blk : Blk wr T 53 V
  own : wr.ownsRow 0 e size p n xs
  new : ∀ k, p.ownBlock = some k → w.heap.size ≤ k
theorem EInv.next {w wr w1 w2 : World} {T : Nat} {p p' : Value} {V V' : Array Value} {e size n n' : Nat} {xs xs' : List Value} (h : EInv w wr T p V e size n xs) (hs : Same wr w1) (hB : Blk w2 T 53 V') (ho : w2.ownsRow 0 e size p' n' xs')
    (ht : Turned (fun k => k = T ∨ p.ownBlock = some k) w1 w2) (hat : p'.ownBlock = p.ownBlock ∨ ∃ k, p'.ownBlock = some k ∧ w1.heap.size ≤ k) : EInv w w2 T p' V' e size n' xs' := by
  refine ⟨(h.tur.trans hs (fun _ h => h.elim)).trans ht (fun i hi => ?_), hB, ho, fun k hk => ?_⟩
  · rcases hi with hi | hi
    · exact .inl hi
    · exact .inr (h.new i hi)
  · rcases hat with e | ⟨j, e, hj⟩
    · exact h.new k (by rw [← e]; exact hk)
    · rw [e] at hk
      obtain rfl : j = k := by simpa using hk
      exact Nat.le_trans (Nat.le_trans h.tur.size hs.size) hj
theorem SpAt.tale {w wr : World} {b T : Nat} {v : Value} {F : List FV} {V : Array Value} (h : SpAt w b v F) (hT : Blk w T 53 V) (ht : Turned (fun k => k = T) w wr) : SpAt wr b v F := by
  refine h.turned ht (fun k hk e => ?_) (fun k hk e => ?_)
  · subst e
    rcases hk with rfl | hk
    · exact Blk.ne_ h.blk hT (by decide) rfl
    · exact own_blk_ne h.own hT (by decide) hk
  · subst e
    obtain ⟨x, hx, hk⟩ := hk
    rcases h.paths x hx with ⟨hp, _⟩ | ⟨g, hp, hg⟩
    · rw [hp] at hk; simp [Value.ownBlock] at hk
    · rw [hp] at hk
      obtain rfl : g = k := by simpa [Value.ownBlock] using hk
      exact Blk.ne_ hg hT (by decide) rfl

/-- What stands in a spine's row. -/
theorem sp_row {w : World} {b : Nat} {v : Value} {F : List FV} (h : SpAt w b v F) (k : Nat) (hk : k < F.length) : ∃ g c, v = .slice (some ⟨g, 0, none⟩) F.length c ∧ F.length ≤ c ∧ w.cell? ⟨b, 0, none⟩ = some (.slice (some ⟨g, 0, none⟩) F.length c) ∧
    w.cell? ⟨g, k * 4, none⟩ = some (.int .i64 F[k].1.node) ∧ w.cell? ⟨g, k * 4 + 1, none⟩ = some (.bool F[k].1.whole) ∧ w.cell? ⟨g, k * 4 + 2, none⟩ = some (.int .i64 F[k].1.next) ∧ w.cell? ⟨g, k * 4 + 3, none⟩ = some F[k].2 := by
  have hown := h.own
  obtain ⟨a, c, rfl, h1, h2⟩ := own_shape h.own
  obtain ⟨g, cap, hv, _, hg⟩ := hown.form (by omega)
  obtain ⟨rfl, rfl⟩ : a = some ⟨g, 0, none⟩ ∧ c = cap := by simpa using hv
  have hc := hown.cells (g := g) rfl
  obtain ⟨e0, e1, e2, e3⟩ := fall_at F k hk
  have d0 := hc _ _ e0
  have d1 := hc _ _ e1
  have d2 := hc _ _ e2
  have d3 := hc _ _ e3
  simp only [Addr.add_lit, Nat.zero_add] at d0 d1 d2 d3
  exact ⟨g, c, rfl, h1, (h.blk.cell 0).trans rfl, d0, d1, d2, d3⟩
theorem sp_head {w : World} {b : Nat} {v : Value} {F : List FV} (h : SpAt w b v F) : ∃ a c, v = .slice a F.length c ∧ w.cell? ⟨b, 0, none⟩ = some (.slice a F.length c) := by
  obtain ⟨a, c, rfl, h1, h2⟩ := own_shape h.own
  exact ⟨a, c, rfl, (h.blk.cell 0).trans rfl⟩
def flat (F : List FV) : List Int := F.flatMap fun x => x.1.path
def nodesOf (F : List FV) : List Int := F.map fun x => x.1.node
theorem flat_snoc (F : List FV) (k : Nat) (h : k < F.length) : flat (F.take (k + 1)) = flat (F.take k) ++ F[k].1.path := by
  unfold flat; rw [List.take_succ_eq_append_getElem h, List.flatMap_append]; congr 1; simp only [List.flatMap_cons, List.flatMap_nil, List.append_nil]
theorem nodes_snoc (F : List FV) (k : Nat) (h : k < F.length) : nodesOf (F.take (k + 1)) = nodesOf (F.take k) ++ [F[k].1.node] := by
  unfold nodesOf; rw [List.take_succ_eq_append_getElem h, List.map_append]; congr 1
theorem flat_le (F : List FV) (k : Nat) : (flat (F.take k)).length ≤ (flat F).length := by
  unfold flat
  conv => rhs; rw [← List.take_append_drop k F]
  rw [List.flatMap_append, List.length_append]
  omega

set_option maxHeartbeats 2000000 in
theorem each_step (w : World) (b : Nat) (v : Value) (F : List FV) (h : SpAt w b v F) (T : Nat) (hT : Blk w T 53 #[.slice none 0 0, .slice none 0 0, .slice none 0 0]) (hF : F.length * 48 ≤ 140737488355328) (hL : ∀ x ∈ F, x.1.path.length ≤ 17592186044416) (hS : (flat F).length * 8 ≤ 140737488355328) :
    Calls Try.prog 26 #[.pointer (some ⟨b, 0, none⟩), .func (Fn.func 27) #[.pointer (some ⟨T, 0, none⟩)] #[]] w fun e w' => e = .returned (.tuple #[]) ∧ ∃ p', EInv w w' T p' #[p', .slice none 0 0, .slice none 0 0] 3 1 (flat F).length (intVals (flat F)) := by
  have H := Lib.hid h; have HT := Lib.hid hT; have HL := Lib.hid hL
  clear h hT hL
  go_enter Try.func26, Try.ntmps26
  go_wp2_with (first | (go_at_call 15; refine (len_any _ b v F H.out).mono ?_; rintro e w' ⟨rfl, rfl⟩))
  go_loopw [7] (fun i wr => ∃ k : Nat, k ≤ F.length ∧ i = .int .i64 k ∧ Hid (∃ p', EInv w wr T p' #[p', .slice none 0 0, .slice none 0 0] 3 1 (flat (F.take k)).length (intVals (flat (F.take k))))) (fun i _ => F.length - (intOf i).toNat)
  case atStart => exact ⟨0, Nat.zero_le _, rfl, .slice none 0 0, ⟨Turned.refl _ _, HT.out, World.ownsRow_nil _ _ _ _, fun k hk => by simp [Value.ownBlock] at hk⟩⟩
  case round =>
    obtain ⟨k, hk, rfl, HV⟩ := hrel
    obtain ⟨p, HE⟩ := HV.out
    have HV := Lib.hid HE
    skip
    clear HE
    have HS := Lib.hid (H.out.tale HT.out HV.out.tur)
    by_cases hlt : k < F.length
    · obtain ⟨g, c, hv, hc, c0, d0, d1, d2, d3⟩ := sp_row HS.out k hlt
      have HP := Lib.hid ((HS.out.paths F[k] (List.getElem_mem _)).rd)
      have HK := HL.out F[k] (List.getElem_mem _)
      have hfl := flat_le F (k + 1)
      rw [flat_snoc F k hlt, List.length_append] at hfl
      obtain ⟨n1, hn1⟩ : ∃ n1, n1 = F[k].1.path.length := ⟨_, rfl⟩
      rw [← hn1] at hfl
      have HN1 := Lib.hid hn1
      clear hn1
      obtain ⟨x, hx⟩ : ∃ x, x = F[k] := ⟨_, rfl⟩
      rw [← hx] at d0 d1 d2 d3 HP HK
      obtain ⟨f, pv⟩ := x
      simp only at d0 d1 d2 d3 HP HK
      have HX' := Lib.hid hx
      obtain ⟨pA, pc, hpv, hpr⟩ := HP.out
      subst hpv
      clear hx hpr hv
      have hk0 : (0 : Int) ≤ k := by omega
      have hk1 : (k : Int) < F.length := by omega
      go_wp2_with fail
      refine (own_any _ f _ HP.out HK).mono ?_
      rintro e w1 ⟨q, rfl, hB, hs, hq⟩
      have HB := Lib.hid hB; have HS1 := Lib.hid hs; have HQ := Lib.hid hq
      clear hB hs hq
      go_wp2_with fail
      refine (step_any _ T _ _ _ (flat (F.take k)) (HV.out.blk.turned HS1.out (fun h => h)) (World.ownsRow.turned HV.out.own HS1.out (fun _ _ h => h)) f _ (PAt.rd (.inr ⟨q, rfl, HB.out⟩)) (by have := HN1.out; rw [← HX'.out] at this; simp only at this; omega)).mono ?_
      rintro e w2 ⟨p2, rfl, hb2, ho2, ht2, hat2⟩
      have HN := Lib.hid (HV.out.next HS1.out hb2 ho2 ht2 hat2)
      have HT2 := Lib.hid ht2
      clear hb2 ho2 ht2 hat2
      go_wp2_with fail
      go_roundw
      case rel => exact ⟨k + 1, by omega, by go_num, p2, by have h1 := HN.out; rw [flat_snoc F k hlt, ← HX'.out]; exact h1⟩
      case measure => simp [intOf]; omega
    · have hkk : k = F.length := by omega
      have h1 := HV.out
      rw [hkk, List.take_length] at h1
      have HV2 := Lib.hid h1
      clear h1
      clear hkk
      go_wp2_with fail
      go_end0
      exact ⟨rfl, p, HV2.out⟩

set_option maxHeartbeats 2000000 in
theorem each_node (w : World) (b : Nat) (v : Value) (F : List FV) (h : SpAt w b v F) (T : Nat) (hT : Blk w T 53 #[.slice none 0 0, .slice none 0 0, .slice none 0 0]) (hF : F.length * 48 ≤ 140737488355328) (hL : ∀ x ∈ F, x.1.path.length ≤ 17592186044416) :
    Calls Try.prog 26 #[.pointer (some ⟨b, 0, none⟩), .func (Fn.func 31) #[.pointer (some ⟨T, 0, none⟩)] #[]] w fun e w' => e = .returned (.tuple #[]) ∧ ∃ p', EInv w w' T p' #[.slice none 0 0, p', .slice none 0 0] 3 1 (nodesOf F).length (intVals (nodesOf F)) := by
  have H := Lib.hid h; have HT := Lib.hid hT; have HL := Lib.hid hL
  clear h hT hL
  go_enter Try.func26, Try.ntmps26
  go_wp2_with (first | (go_at_call 15; refine (len_any _ b v F H.out).mono ?_; rintro e w' ⟨rfl, rfl⟩))
  go_loopw [7] (fun i wr => ∃ k : Nat, k ≤ F.length ∧ i = .int .i64 k ∧ Hid (∃ p', EInv w wr T p' #[.slice none 0 0, p', .slice none 0 0] 3 1 (nodesOf (F.take k)).length (intVals (nodesOf (F.take k))))) (fun i _ => F.length - (intOf i).toNat)
  case atStart => exact ⟨0, Nat.zero_le _, rfl, .slice none 0 0, ⟨Turned.refl _ _, HT.out, World.ownsRow_nil _ _ _ _, fun k hk => by simp [Value.ownBlock] at hk⟩⟩
  case round =>
    obtain ⟨k, hk, rfl, HV⟩ := hrel
    obtain ⟨p, HE⟩ := HV.out
    have HV := Lib.hid HE
    skip
    clear HE
    have HS := Lib.hid (H.out.tale HT.out HV.out.tur)
    by_cases hlt : k < F.length
    · obtain ⟨g, c, hv, hc, c0, d0, d1, d2, d3⟩ := sp_row HS.out k hlt
      have HP := Lib.hid ((HS.out.paths F[k] (List.getElem_mem _)).rd)
      have HK := HL.out F[k] (List.getElem_mem _)
      skip
      obtain ⟨x, hx⟩ : ∃ x, x = F[k] := ⟨_, rfl⟩
      rw [← hx] at d0 d1 d2 d3 HP HK
      obtain ⟨f, pv⟩ := x
      simp only at d0 d1 d2 d3 HP HK
      have HX' := Lib.hid hx
      obtain ⟨pA, pc, hpv, hpr⟩ := HP.out
      subst hpv
      clear hx hpr hv
      have hk0 : (0 : Int) ≤ k := by omega
      have hk1 : (k : Int) < F.length := by omega
      go_wp2_with fail
      refine (own_any _ f _ HP.out HK).mono ?_
      rintro e w1 ⟨q, rfl, hB, hs, hq⟩
      have HB := Lib.hid hB; have HS1 := Lib.hid hs; have HQ := Lib.hid hq
      clear hB hs hq
      go_wp2_with fail
      refine (node_any _ T _ _ _ (nodesOf (F.take k)) (HV.out.blk.turned HS1.out (fun h => h)) (World.ownsRow.turned HV.out.own HS1.out (fun _ _ h => h)) f _ (PAt.rd (.inr ⟨q, rfl, HB.out⟩)) (by simp [nodesOf]; omega)).mono ?_
      rintro e w2 ⟨p2, rfl, hb2, ho2, ht2, hat2⟩
      have HN := Lib.hid (HV.out.next HS1.out hb2 ho2 ht2 hat2)
      have HT2 := Lib.hid ht2
      clear hb2 ho2 ht2 hat2
      go_wp2_with fail
      go_roundw
      case rel => exact ⟨k + 1, by omega, by go_num, p2, by have h1 := HN.out; rw [nodes_snoc F k hlt, ← HX'.out]; exact h1⟩
      case measure => simp [intOf]; omega
    · have hkk : k = F.length := by omega
      have h1 := HV.out
      rw [hkk, List.take_length] at h1
      have HV2 := Lib.hid h1
      clear h1
      clear hkk
      go_wp2_with fail
      go_end0
      exact ⟨rfl, p, HV2.out⟩

theorem pat_tale {w : World} {pv p : Value} {P : List Int} {T n : Nat} {V : Array Value} {xs : List Value} (h : PAt w pv P) (hT : Blk w T 53 V) (ho : w.ownsRow 0 25 4 p n xs) : ∀ k, pv.ownBlock = some k → ¬ (k = T ∨ p.ownBlock = some k) := by
  intro k hk hf
  rcases h with ⟨rfl, _⟩ | ⟨g, rfl, hg⟩
  · simp [Value.ownBlock] at hk
  · obtain rfl : g = k := by simpa [Value.ownBlock] using hk
    rcases hf with rfl | hf
    · exact Blk.ne_ hg hT (by decide) rfl
    · exact own_blk_ne ho hg (by decide) hf

/-- No two of them share a path's block. -/
def Apart (F : List FV) : Prop := F.Pairwise fun x y => ∀ k, x.2.ownBlock = some k → y.2.ownBlock ≠ some k
theorem Apart.snoc {F : List FV} {y : FV} (h : Apart F) (hy : ∀ x ∈ F, ∀ k, x.2.ownBlock = some k → y.2.ownBlock ≠ some k) : Apart (F ++ [y]) := by
  unfold Apart at *
  rw [List.pairwise_append]
  exact ⟨h, List.pairwise_singleton _ _, fun a ha b hb => by obtain rfl : b = y := by simpa using hb
                                                             exact hy a ha⟩
theorem Apart.init {F : List FV} {y : FV} (h : Apart (F ++ [y])) : Apart F ∧ ∀ x ∈ F, ∀ k, x.2.ownBlock = some k → y.2.ownBlock ≠ some k := by
  unfold Apart at *
  rw [List.pairwise_append] at h
  exact ⟨h.1, fun x hx => h.2.2 x hx y (by simp)⟩
/-- Frames that were copied: whose, and that their paths are new. -/
structure FInv (w wr : World) (T : Nat) (p : Value) (F G : List FV) : Prop where
  same : G.map (·.1) = F.map (·.1)
  inv : EInv w wr T p #[.slice none 0 0, .slice none 0 0, p] 25 4 G.length (fall G)
  paths : ∀ x ∈ G, PAt wr x.2 x.1.path ∧ ∀ j, x.2.ownBlock = some j → w.heap.size ≤ j
  apart : Apart G

theorem FInv.next {w wr w1 w2 : World} {T q k : Nat} {p p2 : Value} {F G : List FV} {f : Fr} {pv : Value} (hk : k < F.length) (h : FInv w wr T p (F.take k) G) (hx : (f, pv) = F[k]) (hs : Same wr w1) (hB1 : Blk w1 q 3 (intVals f.path).toArray) (hq : wr.heap.size ≤ q)
    (hB : Blk w2 T 53 #[.slice none 0 0, .slice none 0 0, p2]) (ho : w2.ownsRow 0 25 4 p2 (G ++ [(f, Value.slice (some ⟨q, 0, none⟩) f.path.length f.path.length)]).length (fall (G ++ [(f, Value.slice (some ⟨q, 0, none⟩) f.path.length f.path.length)])))
    (ht : Turned (fun k => k = T ∨ p.ownBlock = some k) w1 w2) (hat : p2.ownBlock = p.ownBlock ∨ ∃ k, p2.ownBlock = some k ∧ w1.heap.size ≤ k) :
    FInv w w2 T p2 (F.take (k + 1)) (G ++ [(f, Value.slice (some ⟨q, 0, none⟩) f.path.length f.path.length)]) := by
  have hTw : Blk w1 T 53 #[.slice none 0 0, .slice none 0 0, p] := h.inv.blk.turned hs (fun h => h)
  have hO : w1.ownsRow 0 25 4 p G.length (fall G) := World.ownsRow.turned h.inv.own hs (fun _ _ h => h)
  refine ⟨?_, h.inv.next hs hB ho ht hat, fun x hx2 => ?_, h.apart.snoc (fun x hx2 k hk hq2 => by
    obtain rfl : q = k := by simpa [Value.ownBlock] using hq2
    rcases (h.paths x hx2).1 with ⟨e, _⟩ | ⟨g, e, hg⟩
    · rw [e] at hk; simp [Value.ownBlock] at hk
    · rw [e] at hk
      obtain rfl : g = q := by simpa [Value.ownBlock] using hk
      have := hg.lt
      omega)⟩
  · rw [List.take_succ_eq_append_getElem hk, List.map_append, List.map_append, h.same, ← hx]; rfl
  · rw [List.mem_append] at hx2
    rcases hx2 with hx2 | hx2
    · have hp := (h.paths x hx2).1.turned hs (fun _ _ h => h)
      exact ⟨hp.turned ht (pat_tale hp hTw hO), (h.paths x hx2).2⟩
    · obtain rfl : x = _ := by simpa using hx2
      have hp : PAt w1 (Value.slice (some ⟨q, 0, none⟩) f.path.length f.path.length) f.path := .inr ⟨q, rfl, hB1⟩
      refine ⟨hp.turned ht (pat_tale hp hTw hO), fun j hj => ?_⟩
      obtain rfl : q = j := by simpa [Value.ownBlock] using hj
      exact Nat.le_trans h.inv.tur.size hq

set_option maxHeartbeats 2000000 in
theorem each_frame (w : World) (b : Nat) (v : Value) (F : List FV) (h : SpAt w b v F) (T : Nat) (hT : Blk w T 53 #[.slice none 0 0, .slice none 0 0, .slice none 0 0]) (hF : F.length * 48 ≤ 140737488355328) (hL : ∀ x ∈ F, x.1.path.length ≤ 17592186044416) :
    Calls Try.prog 26 #[.pointer (some ⟨b, 0, none⟩), .func (Fn.func 30) #[.pointer (some ⟨T, 0, none⟩)] #[]] w fun e w' => e = .returned (.tuple #[]) ∧ ∃ p' G, FInv w w' T p' F G := by
  have H := Lib.hid h; have HT := Lib.hid hT; have HL := Lib.hid hL
  clear h hT hL
  go_enter Try.func26, Try.ntmps26
  go_wp2_with (first | (go_at_call 15; refine (len_any _ b v F H.out).mono ?_; rintro e w' ⟨rfl, rfl⟩))
  go_loopw [7] (fun i wr => ∃ k : Nat, k ≤ F.length ∧ i = .int .i64 k ∧ Hid (∃ p' G, FInv w wr T p' (F.take k) G)) (fun i _ => F.length - (intOf i).toNat)
  case atStart => exact ⟨0, Nat.zero_le _, rfl, .slice none 0 0, [], rfl, ⟨Turned.refl _ _, HT.out, World.ownsRow_nil _ _ _ _, fun k hk => by simp [Value.ownBlock] at hk⟩, fun x hx => by simp at hx, List.Pairwise.nil⟩
  case round =>
    obtain ⟨k, hk, rfl, HV⟩ := hrel
    obtain ⟨p, G, HE⟩ := HV.out
    have HV := Lib.hid HE
    clear HE
    have HS := Lib.hid (H.out.tale HT.out HV.out.inv.tur)
    by_cases hlt : k < F.length
    · obtain ⟨g, c, hv, hc, c0, d0, d1, d2, d3⟩ := sp_row HS.out k hlt
      have HP := Lib.hid ((HS.out.paths F[k] (List.getElem_mem _)).rd)
      have HK := HL.out F[k] (List.getElem_mem _)
      obtain ⟨x, hx⟩ : ∃ x, x = F[k] := ⟨_, rfl⟩
      rw [← hx] at d0 d1 d2 d3 HP HK
      obtain ⟨f, pv⟩ := x
      simp only at d0 d1 d2 d3 HP HK
      have HX' := Lib.hid hx
      obtain ⟨pA, pc, hpv, hpr⟩ := HP.out
      subst hpv
      clear hx hpr hv
      have hk0 : (0 : Int) ≤ k := by omega
      have hk1 : (k : Int) < F.length := by omega
      have HGL : Hid (G.length = k) := by
        have := congrArg List.length HV.out.same
        simp at this
        unfold Hid; omega
      go_wp2_with fail
      refine (own_any _ f _ HP.out HK).mono ?_
      rintro e w1 ⟨q, rfl, hB, hs, hq⟩
      have HB := Lib.hid hB; have HS1 := Lib.hid hs; have HQ := Lib.hid hq
      clear hB hs hq
      go_wp2_with fail
      refine (frame_any _ T _ _ _ G (HV.out.inv.blk.turned HS1.out (fun h => h)) (World.ownsRow.turned HV.out.inv.own HS1.out (fun _ _ h => h)) f _ (PAt.rd (.inr ⟨q, rfl, HB.out⟩)) (by rw [HGL.out]; omega)).mono ?_
      rintro e w2 ⟨p2, rfl, hb2, ho2, ht2, hat2⟩
      have HN := Lib.hid (HV.out.next hlt HX'.out HS1.out HB.out HQ.out hb2 ho2 ht2 hat2)
      clear hb2 ho2 ht2 hat2
      go_wp2_with fail
      go_roundw
      case rel => exact ⟨k + 1, by omega, by go_num, p2, _, HN.out⟩
      case measure => simp [intOf]; omega
    · have hkk : k = F.length := by omega
      have h1 := HV.out
      rw [hkk, List.take_length] at h1
      have HV2 := Lib.hid h1
      clear h1 hkk
      go_wp2_with fail
      go_end0
      exact ⟨rfl, p, G, HV2.out⟩

set_option maxHeartbeats 1000000 in
theorem path_any (w : World) (b : Nat) (v : Value) (F : List FV) (h : SpAt w b v F) (hF : F.length * 48 ≤ 140737488355328) (hL : ∀ x ∈ F, x.1.path.length ≤ 17592186044416) (hS : (flat F).length * 8 ≤ 140737488355328) :
    Calls Try.prog 11 #[.pointer (some ⟨b, 0, none⟩)] w fun e w' => ∃ p, e = .returned p ∧ Same w w' ∧ w'.ownsRow 0 3 1 p (flat F).length (intVals (flat F)) ∧ ∀ k, p.ownBlock = some k → w.heap.size ≤ k := by
  have H := Lib.hid h
  clear h
  go_enter Try.func11, Try.ntmps11
  go_wp2_with fail
  refine (each_step _ b v F (H.out.same ((Turned.refl _ _).alloc _)) w.heap.size (Blk.new w 53 _) hF hL hS).mono ?_
  rintro e w1 ⟨rfl, p, hE⟩
  have HE := Lib.hid hE
  obtain ⟨k0, k1, k2⟩ := hE.blk.three
  have HS : Hid (Same w w1) := by
    have := (Turned.refl (fun k => k = w.heap.size) w).alloc (.cells #[.slice none 0 0, .slice none 0 0, .slice none 0 0] 53) |>.trans HE.out.tur (fun i hi => .inl hi)
    exact Below.same_ (this.below (Nat.le_refl _) (fun i hi => by omega))
  clear hE
  go_wp2_with fail
  go_ret
  exact ⟨p, rfl, HS.out, HE.out.own, fun k hk => Nat.le_trans (by simp) (HE.out.new k hk)⟩

set_option maxHeartbeats 1000000 in
theorem nodes_any (w : World) (b : Nat) (v : Value) (F : List FV) (h : SpAt w b v F) (hF : F.length * 48 ≤ 140737488355328) (hL : ∀ x ∈ F, x.1.path.length ≤ 17592186044416) :
    Calls Try.prog 20 #[.pointer (some ⟨b, 0, none⟩)] w fun e w' => ∃ p, e = .returned p ∧ Same w w' ∧ w'.ownsRow 0 3 1 p (nodesOf F).length (intVals (nodesOf F)) ∧ ∀ k, p.ownBlock = some k → w.heap.size ≤ k := by
  have H := Lib.hid h
  clear h
  go_enter Try.func20, Try.ntmps20
  go_wp2_with fail
  refine (each_node _ b v F (H.out.same ((Turned.refl _ _).alloc _)) w.heap.size (Blk.new w 53 _) hF hL).mono ?_
  rintro e w1 ⟨rfl, p, hE⟩
  have HE := Lib.hid hE
  obtain ⟨k0, k1, k2⟩ := hE.blk.three
  have HS : Hid (Same w w1) := by
    have := (Turned.refl (fun k => k = w.heap.size) w).alloc (.cells #[.slice none 0 0, .slice none 0 0, .slice none 0 0] 53) |>.trans HE.out.tur (fun i hi => .inl hi)
    exact Below.same_ (this.below (Nat.le_refl _) (fun i hi => by omega))
  clear hE
  go_wp2_with fail
  go_ret
  exact ⟨p, rfl, HS.out, HE.out.own, fun k hk => Nat.le_trans (by simp) (HE.out.new k hk)⟩

set_option maxHeartbeats 1000000 in
theorem frames_sep (w : World) (b : Nat) (v : Value) (F : List FV) (h : SpAt w b v F) (hF : F.length * 48 ≤ 140737488355328) (hL : ∀ x ∈ F, x.1.path.length ≤ 17592186044416) :
    Calls Try.prog 19 #[.pointer (some ⟨b, 0, none⟩)] w fun e w' => ∃ p G, e = .returned p ∧ Same w w' ∧ G.map (·.1) = F.map (·.1) ∧ w'.ownsRow 0 25 4 p G.length (fall G) ∧ (∀ k, p.ownBlock = some k → w.heap.size ≤ k) ∧ (∀ x ∈ G, PAt w' x.2 x.1.path ∧ ∀ j, x.2.ownBlock = some j → w.heap.size ≤ j) ∧ Apart G := by
  have H := Lib.hid h
  clear h
  go_enter Try.func19, Try.ntmps19
  go_wp2_with fail
  refine (each_frame _ b v F (H.out.same ((Turned.refl _ _).alloc _)) w.heap.size (Blk.new w 53 _) hF hL).mono ?_
  rintro e w1 ⟨rfl, p, G, hE⟩
  have HE := Lib.hid hE
  obtain ⟨k0, k1, k2⟩ := hE.inv.blk.three
  have HS : Hid (Same w w1) := by
    have := (Turned.refl (fun k => k = w.heap.size) w).alloc (.cells #[.slice none 0 0, .slice none 0 0, .slice none 0 0] 53) |>.trans HE.out.inv.tur (fun i hi => .inl hi)
    exact Below.same_ (this.below (Nat.le_refl _) (fun i hi => by omega))
  clear hE
  go_wp2_with fail
  go_ret
  exact ⟨p, G, rfl, HS.out, HE.out.same, HE.out.inv.own, fun k hk => Nat.le_trans (by simp) (HE.out.inv.new k hk), fun x hx => ⟨(HE.out.paths x hx).1, fun j hj => Nat.le_trans (by simp) ((HE.out.paths x hx).2 j hj)⟩, HE.out.apart⟩
theorem frames_any (w : World) (b : Nat) (v : Value) (F : List FV) (h : SpAt w b v F) (hF : F.length * 48 ≤ 140737488355328) (hL : ∀ x ∈ F, x.1.path.length ≤ 17592186044416) :
    Calls Try.prog 19 #[.pointer (some ⟨b, 0, none⟩)] w fun e w' => ∃ p G, e = .returned p ∧ Same w w' ∧ G.map (·.1) = F.map (·.1) ∧ w'.ownsRow 0 25 4 p G.length (fall G) ∧ (∀ k, p.ownBlock = some k → w.heap.size ≤ k) ∧ ∀ x ∈ G, PAt w' x.2 x.1.path ∧ ∀ j, x.2.ownBlock = some j → w.heap.size ≤ j :=
  (frames_sep w b v F h hF hL).mono fun _ _ ⟨p, G, h1, h2, h3, h4, h5, h6, _⟩ => ⟨p, G, h1, h2, h3, h4, h5, h6⟩
end Go.Proofs.Ythfhjopofpffgaa
