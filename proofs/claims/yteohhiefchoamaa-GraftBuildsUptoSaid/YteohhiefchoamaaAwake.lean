/-
  The walk of the law's awake: the chapter's first examples.
-/
import Derived.Test.YteohhiefchoamaaSignature
namespace Go.Proofs.Yteohhiefchoamaa
open Go.RowKit

def X0 : List Sym := [⟨⟨#[122]⟩, 0, false⟩, ⟨⟨#[115]⟩, 1, false⟩, ⟨⟨#[112]⟩, 2, false⟩, ⟨⟨#[100]⟩, 1, true⟩]
theorem sigL_X0 : sigL X0 = X0 := by rfl
def N1 : List Nd := [⟨0, [], 0, false, 0⟩, ⟨1, [0], 0, false, 0⟩, ⟨0, [], 0, false, 0⟩, ⟨2, [2, 1], 0, false, 0⟩]
def N2 : List Nd := N1 ++ [⟨3, [3], 0, false, 0⟩]
def N3 : List Nd := [⟨1, [3], 0, false, 0⟩, ⟨2, [3, 5], 0, false, 0⟩]
def R0 : List (List PartD) := [[⟨2, []⟩, ⟨-1, [0]⟩, ⟨1, []⟩, ⟨-1, [0]⟩]]
theorem load1 : loadBad X0 8 0 [2, 0, 1, 0] = none ∧ layF X0 0 ([2, 0, 1, 0].map fun n => (n, (0 : Int))) = ([3], N1) := ⟨by decide, rfl⟩
theorem load2 : loadBad X0 8 4 [1] = some (130, 23) := by decide
theorem ranked1 : Ranked N1 := by
  have := ranked_lay X0 ranked_nil ([2, 0, 1, 0].map fun n => (n, (0 : Int))) (by
    intro x hx hn
    simp at hx
    rcases hx with rfl | rfl | rfl | rfl <;> simp at hn)
  simp only [List.length_nil, List.nil_append] at this
  rwa [load1.2] at this
theorem ranked2 : Ranked N2 := ranked_snoc ranked1 _ (by
  intro d hd
  obtain rfl : d = 3 := by simpa [down] using hd
  exact ⟨3, rfl, by decide⟩)
theorem res2 (a : Nat) (h : a < N2.length) (hp : N2[a].points = false) : resF N2 a = a := resF_eq (.here h hp)
theorem lead2 : leadF N2 4 [0] = 3 := by
  have h4 := res2 4 (by decide) (by decide)
  have h3 := res2 3 (by decide) (by decide)
  show argF N2 4 0 = 3
  unfold argF ndF
  rw [if_pos (by decide)]
  show (match N2[resF N2 4]? with | none => -1 | some nd => _) = (3 : Int)
  rw [h4]
  show (resF N2 3 : Int) = 3
  rw [h3]; rfl
theorem build1 : buildBad X0 N2 8 R0 0 4 = none ∧ buildP N2 R0 0 4 = [(2, 0), (-1, 3), (1, 0), (-1, 3)] := by
  have h4 := res2 4 (by decide) (by decide)
  have hp : ∀ q ∈ ([⟨2, []⟩, ⟨-1, [0]⟩, ⟨1, []⟩, ⟨-1, [0]⟩] : List PartD), partBad X0 N2 ((4 : Nat) : Int) q = none := by
    intro q hq
    simp only [List.mem_cons, List.not_mem_nil, or_false] at hq
    have hl : leadF N2 ((4 : Nat) : Int) [0] = 3 := lead2
    rcases hq with rfl | rfl | rfl | rfl
    · unfold partBad; rw [if_neg (by decide), if_neg (by decide), if_neg (fun h => absurd h.1 (by decide))]
    · unfold partBad; rw [if_neg (by decide), if_neg (by decide), if_neg (fun h => by have := h.2; rw [hl] at this; exact absurd this (by decide))]
    · unfold partBad; rw [if_neg (by decide), if_neg (by decide), if_neg (fun h => absurd h.1 (by decide))]
    · unfold partBad; rw [if_neg (by decide), if_neg (by decide), if_neg (fun h => by have := h.2; rw [hl] at this; exact absurd this (by decide))]
  constructor
  · unfold buildBad
    rw [if_neg (by decide), if_neg (by decide)]
    show rightBad X0 N2 8 (resF N2 4) [⟨2, []⟩, ⟨-1, [0]⟩, ⟨1, []⟩, ⟨-1, [0]⟩] = none
    rw [h4]
    unfold rightBad
    rw [partsBad_none hp]
    simp only
    rw [if_neg (by decide), if_neg (by decide)]
  · unfold buildP
    show itemsF N2 (resF N2 4) [⟨2, []⟩, ⟨-1, [0]⟩, ⟨1, []⟩, ⟨-1, [0]⟩] = _
    rw [h4]
    have hl : leadF N2 ((4 : Nat) : Int) [0] = 3 := lead2
    have hl2 : leadF N2 4 [0] = 3 := lead2
    simp [itemsF, handF, hl2]
theorem lay2 : layF X0 5 [(2, 0), (-1, 3), (1, 0), (-1, 3)] = ([6], N3) := rfl

theorem head2 : headF (N2 ++ N3) 4 = (3, false) := by
  unfold headF ndF
  rw [if_pos (by decide)]
  show (match (N2 ++ N3)[resF (N2 ++ N3) 4]? with | none => ((-1 : Int), false) | some nd => (nd.sym, nd.mark != 0)) = _
  rw [resF_eq (.here (by decide) (by decide))]
  rfl
theorem rd_lit {w : World} {g : Nat} {P : List Int} (h : Blk w g 3 (nInts P).toArray) : Rd w (.slice (some ⟨g, 0, none⟩) P.length P.length) P :=
  ⟨_, _, rfl, fun _ => ⟨g, 0, rfl, fun k hk => by rw [h.cell (0 + k)]; simp [nInts, hk]⟩⟩
theorem rds_lit {w : World} {g : Nat} {P : List Int} {S : Nat → Prop} (h : Blk w g 3 (nInts P).toArray) (hS : ¬ S g) : RdS w S (.slice (some ⟨g, 0, none⟩) P.length P.length) P :=
  ⟨_, _, rfl, fun _ => ⟨g, 0, rfl, hS, fun k hk => by rw [h.cell (0 + k)]; simp [nInts, hk]⟩⟩

/-- A signature and a heap of the law's own. -/
structure SH (w wr : World) (bs bm : Nat) (vs : Value) (L : List Sym) (b : Nat) (room : Int) (v : Value) (N : List NV) : Prop where
  same : Same w wr
  sig : SigAt wr bs bm vs L
  hp : HeapAt wr b room v N
  new : ∀ k, hfoot b v k → w.heap.size ≤ k
section
variable {w wr w' : World} {bs bm b : Nat} {vs v v' : Value} {L : List Sym} {room : Int} {N N' : List NV}
theorem SH.later (h : SH w wr bs bm vs L b room v N) (ht : Same wr w') : SH w w' bs bm vs L b room v N :=
  ⟨h.same.trans ht (fun _ h => h.elim), h.sig.turned ht (fun _ _ h => h), h.hp.same ht, h.new⟩
theorem SH.step (h : SH w wr bs bm vs L b room v N) (hh : HeapAt w' b room v' N') (ht : Turned (hfoot b v) wr w') (hv : v'.ownBlock = v.ownBlock ∨ ∃ k, v'.ownBlock = some k ∧ wr.heap.size ≤ k) : SH w w' bs bm vs L b room v' N' :=
  ⟨h.same.trans ht (fun i hi => .inr (h.new i hi)), h.sig.turned ht (sig_apart h.sig h.hp), hh, fun k hk => by
    rcases hfoot_old hv k hk with h1 | h1
    · exact h.new k h1
    · exact Nat.le_trans h.same.size h1⟩
end
theorem rds_new {w : World} {b : Nat} {room : Int} {v : Value} {N : List NV} (h : HeapAt w b room v N) (P : List Int) : RdS (w.alloc (.cells (nInts P).toArray 3)) (hfoot b v) (.slice (some ⟨w.heap.size, 0, none⟩) P.length P.length) P :=
  rds_lit (Blk.new w 3 _) (fun hf => by have := h.flt _ hf; omega)

set_option maxRecDepth 100000 in
set_option maxHeartbeats 8000000 in
theorem awake_any (w : World) : Calls Try.prog 10 #[] w fun e w' => e = .returned (.bool true) ∧ Same w w' := by
  have hX : SymRd (w.alloc (.cells #[.string ⟨#[122]⟩, .int .i64 0, .bool false, .string ⟨#[115]⟩, .int .i64 1, .bool false, .string ⟨#[112]⟩, .int .i64 2, .bool false, .string ⟨#[100]⟩, .int .i64 1, .bool true] 84)) (.slice (some ⟨w.heap.size, 0, none⟩) 4 4) X0 := by
    have hB := Blk.new w 84 #[.string ⟨#[122]⟩, .int .i64 0, .bool false, .string ⟨#[115]⟩, .int .i64 1, .bool false, .string ⟨#[112]⟩, .int .i64 2, .bool false, .string ⟨#[100]⟩, .int .i64 1, .bool true]
    refine ⟨_, _, rfl, fun _ => ⟨w.heap.size, 0, rfl, fun k hk => ?_⟩⟩
    have : k = 0 ∨ k = 1 ∨ k = 2 ∨ k = 3 := by simp [X0] at hk; omega
    rcases this with rfl | rfl | rfl | rfl <;> exact ⟨(hB.cell _).trans rfl, (hB.cell _).trans rfl, (hB.cell _).trans rfl⟩
  have HX := Lib.hid hX
  clear hX
  go_enter Try.func10, Try.ntmps10
  go_wp2_with fail
  refine (signature_any _ _ X0 HX.out (by intro x hx; simp [X0] at hx; rcases hx with rfl | rfl | rfl | rfl <;> (unfold maxLen; decide)) (by decide)).mono ?_
  rintro e w1 ⟨bs, bm, vs, u, rfl, hsg, _, hs1, hn1, _⟩
  rw [sigL_X0] at hsg
  have HSg := Lib.hid hsg
  have HS1 : Hid (Same w w1) := ((Turned.refl _ _).alloc _).trans hs1 (fun _ h => h.elim)
  clear hsg hs1 hn1
  go_wp2_with fail
  refine (hnew_ok 8 (by decide) (by decide) _).mono ?_
  rintro e w2 ⟨rfl, hh2, hs2⟩
  have HS2 : Hid (SH w w2 bs bm vs X0 w1.heap.size 8 (.slice none 0 0) []) := ⟨HS1.out.trans hs2 (fun _ h => h.elim), HSg.out.turned hs2 (fun _ _ h => h), hh2, fun k hk => by
    rcases hk with rfl | hk
    · exact HS1.out.size
    · simp [Value.ownBlock] at hk⟩
  obtain ⟨b, hb⟩ : ∃ b, b = w1.heap.size := ⟨_, rfl⟩
  rw [← hb] at HS2 ⊢
  have HAr : Hid (∀ x ∈ X0, 0 ≤ x.arity ∧ x.arity ≤ 6) := sigL_X0 ▸ sigL_ar X0
  clear hh2 hs2 hb
  go_wp2_with fail
  have HL3 := Lib.hid (load_any (w2.alloc (.cells (nInts [2, 0, 1, 0]).toArray 3)) bs bm vs X0 (HS2.out.sig.turned (S := fun _ => False) ((Turned.refl _ _).alloc _) (fun _ _ h => h)) HAr.out b 8 _ [] (HS2.out.hp.same ((Turned.refl _ _).alloc _)) (by decide) (.slice (some ⟨w2.heap.size, 0, none⟩) 4 4) [2, 0, 1, 0] (rds_new HS2.out.hp [2, 0, 1, 0]) (by decide) (by decide))
  refine HL3.out.mono ?_
  rintro e w3 (⟨c, y, ev, he, _⟩ | ⟨v3, M3, a3, _, ha3, rfl, hh3, hM3, ht3, hv3⟩)
  · exact absurd (load1.1.symm.trans he) (by simp)
  rw [show (([] : List NV)).length = 0 from rfl, load1.2] at ha3 hM3
  obtain rfl : a3 = 3 := by simpa using ha3.symm
  rw [List.nil_append] at hh3
  have HS3 := Lib.hid ((HS2.out.later ((Turned.refl _ _).alloc _)).step hh3 ht3 hv3)
  have HM3 : Hid (M3.map (·.1) = N1) := hM3
  have hM3l : Hid (M3.length = 4) := by have := congrArg List.length hM3; simpa [N1, Hid] using this
  clear hh3 hM3 ht3 hv3 ha3 HL3
  go_wp2_with fail
  have HL4 := Lib.hid (load_any (w3.alloc (.cells (nInts [1]).toArray 3)) bs bm vs X0 (HS3.out.sig.turned (S := fun _ => False) ((Turned.refl _ _).alloc _) (fun _ _ h => h)) HAr.out b 8 _ M3 (HS3.out.hp.same ((Turned.refl _ _).alloc _)) (by decide) (.slice (some ⟨w3.heap.size, 0, none⟩) 1 1) [1] (rds_new HS3.out.hp [1]) (by decide) (by rw [hM3l.out]; decide))
  refine HL4.out.mono ?_
  rintro e w4 (⟨c, y, ev4, he, rfl, ⟨q4, rfl, _, _⟩, hs4⟩ | ⟨v4, M4, a4, he, _⟩)
  rotate_left
  · rw [hM3l.out] at he; exact absurd (load2.symm.trans he) (by simp)
  have HS4 := Lib.hid (HS3.out.later (((Turned.refl _ _).alloc _).trans hs4 (fun _ h => h.elim)))
  clear hs4 he HL4
  go_wp2_with fail
  refine (make_ok (w4.alloc (.cells (nInts [3]).toArray 3)) b 8 v3 M3 (HS4.out.hp.same ((Turned.refl _ _).alloc _)) 3 (by decide) (.slice (some ⟨w4.heap.size, 0, none⟩) 1 1) [3] (rds_new HS4.out.hp [3]).rd (by decide) (by
    intro d hd
    obtain rfl : d = 3 := by simpa using hd
    exact ⟨3, rfl, by rw [hM3l.out]; decide⟩) (by rw [hM3l.out]; decide) (by decide)).mono ?_
  rintro e w5 ⟨v5, q5, rfl, hh5, ht5, hv5, _⟩
  rw [hM3l.out]
  have HS5 := Lib.hid ((HS4.out.later ((Turned.refl _ _).alloc _)).step hh5 ht5 hv5)
  obtain ⟨M5, hM5⟩ : ∃ M5, M5 = M3 ++ [((⟨3, [3], 0, false, 0⟩ : Nd), Value.slice (some ⟨q5, 0, none⟩) ([3] : List Int).length ([3] : List Int).length)] := ⟨_, rfl⟩
  rw [← hM5] at HS5
  have HM5 : Hid (M5.map (·.1) = N2) := by rw [hM5, List.map_append, HM3.out]; rfl
  have hM5l : Hid (M5.length = 5) := by rw [hM5, List.length_append, hM3l.out]; rfl
  clear hh5 ht5 hv5 hM5
  go_wp2_with fail
  obtain ⟨W6, hW6⟩ : ∃ W6, W6 = ((((w5.alloc (.cells #[.int .i64 0] 3)).alloc (.cells #[.int .i64 0] 3)).alloc (.cells #[.int .i64 2, .slice none 0 0, .int .i64 (-1), .slice (some ⟨w5.heap.size, 0, none⟩) 1 1, .int .i64 1, .slice none 0 0, .int .i64 (-1), .slice (some ⟨w5.heap.size + 1, 0, none⟩) 1 1] 78)).alloc (.cells #[.slice (some ⟨w5.heap.size + 1 + 1, 0, none⟩) 4 4] 76)).alloc (.cells #[.slice none 0 0, .slice none 0 0, .slice none 0 0, .slice (some ⟨w5.heap.size + 1 + 1 + 1, 0, none⟩) 1 1] 39) := ⟨_, rfl⟩
  have hS6 : Same w5 W6 := by rw [hW6]; exact (((((Turned.refl _ _).alloc _).alloc _).alloc _).alloc _).alloc _
  have hR6 : RightsAt W6 (hfoot b v5) (.slice (some ⟨w5.heap.size + 1 + 1 + 1, 0, none⟩) 1 1) R0 := by
    have hnf : ∀ j, w5.heap.size ≤ j → ¬ hfoot b v5 j := fun j hj h => by have := HS5.out.hp.flt j h; omega
    have B0 : Blk W6 w5.heap.size 3 (nInts [0]).toArray := by
      rw [hW6]; exact ((((Blk.new w5 3 (nInts [0]).toArray).alloc _).alloc _).alloc _).alloc _
    have B1 : Blk W6 (w5.heap.size + 1) 3 (nInts [0]).toArray := by
      have h := Blk.new (w5.alloc (.cells #[.int .i64 0] 3)) 3 (nInts [0]).toArray
      rw [World.size_alloc] at h
      rw [hW6]; exact ((h.alloc _).alloc _).alloc _
    have B2 : Blk W6 (w5.heap.size + 1 + 1) 78 #[.int .i64 2, .slice none 0 0, .int .i64 (-1), .slice (some ⟨w5.heap.size, 0, none⟩) 1 1, .int .i64 1, .slice none 0 0, .int .i64 (-1), .slice (some ⟨w5.heap.size + 1, 0, none⟩) 1 1] := by
      have h := Blk.new ((w5.alloc (.cells #[.int .i64 0] 3)).alloc (.cells #[.int .i64 0] 3)) 78 #[.int .i64 2, .slice none 0 0, .int .i64 (-1), .slice (some ⟨w5.heap.size, 0, none⟩) 1 1, .int .i64 1, .slice none 0 0, .int .i64 (-1), .slice (some ⟨w5.heap.size + 1, 0, none⟩) 1 1]
      rw [World.size_alloc, World.size_alloc] at h
      rw [hW6]; exact (h.alloc _).alloc _
    have B3 : Blk W6 (w5.heap.size + 1 + 1 + 1) 76 #[.slice (some ⟨w5.heap.size + 1 + 1, 0, none⟩) 4 4] := by
      have h := Blk.new (((w5.alloc (.cells #[.int .i64 0] 3)).alloc (.cells #[.int .i64 0] 3)).alloc (.cells #[.int .i64 2, .slice none 0 0, .int .i64 (-1), .slice (some ⟨w5.heap.size, 0, none⟩) 1 1, .int .i64 1, .slice none 0 0, .int .i64 (-1), .slice (some ⟨w5.heap.size + 1, 0, none⟩) 1 1] 78)) 76 #[.slice (some ⟨w5.heap.size + 1 + 1, 0, none⟩) 4 4]
      rw [World.size_alloc, World.size_alloc, World.size_alloc] at h
      rw [hW6]; exact h.alloc _
    refine ⟨_, _, rfl, fun _ => ⟨_, 0, rfl, hnf _ (by omega), fun k hk => ?_⟩⟩
    obtain rfl : k = 0 := by simp [R0] at hk; omega
    refine ⟨_, (B3.cell _).trans rfl, _, _, rfl, fun _ => ⟨_, 0, rfl, hnf _ (by omega), fun k hk => ?_⟩⟩
    have : k = 0 ∨ k = 1 ∨ k = 2 ∨ k = 3 := by simp [R0] at hk; omega
    have nl : ∀ P : List Int, P = [] → RdS W6 (hfoot b v5) (.slice none 0 0) P := by
      intro P hP; subst hP; exact ⟨none, 0, rfl, fun h => by simp at h⟩
    rcases this with rfl | rfl | rfl | rfl
    · exact ⟨(B2.cell _).trans rfl, _, (B2.cell _).trans rfl, nl _ rfl⟩
    · exact ⟨(B2.cell _).trans rfl, _, (B2.cell _).trans rfl, rds_lit B0 (hnf _ (Nat.le_refl _))⟩
    · exact ⟨(B2.cell _).trans rfl, _, (B2.cell _).trans rfl, nl _ rfl⟩
    · exact ⟨(B2.cell _).trans rfl, _, (B2.cell _).trans rfl, rds_lit B1 (hnf _ (by omega))⟩
  rw [← hW6]
  have HS6 := Lib.hid (HS5.out.later hS6)
  have HR6 := Lib.hid hR6
  clear hS6 hR6 hW6
  have hA17 : Hid (∀ x ∈ M5, x.1.args.length ≤ 17592186044416) := by
    intro x hx
    have h1 : x.1 ∈ N2 := by rw [← HM5.out]; exact List.mem_map_of_mem hx
    simp [N2, N1] at h1
    rcases h1 with h | h | h | h | h <;> rw [h] <;> decide
  have HBd := Lib.hid (buildx W6 bs bm vs X0 HS6.out.sig HAr.out b 8 v5 M5 HS6.out.hp (by rw [HM5.out]; exact ranked2) (by decide) (by rw [hM5l.out]; decide) hA17.out (.slice none 0 0) (.slice none 0 0) (.slice none 0 0) _ R0 HR6.out (by intro Q hQ; simp [R0] at hQ; subst hQ; decide) (by intro Q hQ q hq; simp [R0] at hQ; subst hQ; simp at hq; rcases hq with rfl | rfl | rfl | rfl <;> decide) 0 4)
  refine HBd.out.mono ?_
  rw [HM5.out, hM5l.out]
  rintro e w7 (⟨c, i, y, ev, he, _⟩ | ⟨v7, M7, a7, _, ha7, rfl, hh7, hM7, ht7, hv7⟩)
  · exact absurd (build1.1.symm.trans he) (by simp)
  rw [build1.2, lay2] at ha7 hM7
  obtain rfl : a7 = 6 := by simpa using ha7.symm
  have HS7 := Lib.hid (HS6.out.step hh7 ht7 hv7)
  have HM7 : Hid ((M5 ++ M7).map (·.1) = N2 ++ N3) := by unfold Hid; rw [List.map_append, HM5.out, hM7]
  have hM7l : Hid ((M5 ++ M7).length = 7) := by have := congrArg List.length HM7.out; simpa [N1, N2, N3, Hid] using this
  clear hh7 ht7 hv7 hM7 ha7 HBd
  go_wp2_with fail
  refine (hat_at _ b 8 v7 _ HS7.out.hp 6 ⟨2, [3, 5], 0, false, 0⟩ (by rw [HM7.out]; rfl) (by decide)).mono ?_
  rintro e w8 ⟨q8, rfl, hB8, hs8, hq8⟩
  have HS8 := Lib.hid (HS7.out.later hs8)
  have b0 : w8.cell? ⟨q8, 0, none⟩ = some (.int .i64 3) := (hB8.cell 0).trans rfl
  have b1 : w8.cell? ⟨q8, 1, none⟩ = some (.int .i64 5) := (hB8.cell 1).trans rfl
  have bl8 := hB8.lt
  clear hB8 hs8 hq8
  go_wp2_with fail
  refine (of_any _ _).mono ?_
  rintro e w9 ⟨rfl, hs9⟩
  have hr7 : Hid (Ranked ((M5 ++ M7).map (·.1))) := by
    rw [HM7.out]
    have h1 := ranked_lay X0 ranked2 [(2, 0), (-1, 3), (1, 0), (-1, 3)] (by
      intro x hx hn
      simp at hx
      rcases hx with rfl | rfl | rfl | rfl
      · simp at hn
      · exact ⟨3, rfl, by decide⟩
      · simp at hn
      · exact ⟨3, rfl, by decide⟩)
    rw [show N2.length = 5 from rfl, lay2] at h1
    exact h1
  have hA7 : Hid (∀ x ∈ M5 ++ M7, x.1.args.length ≤ 17592186044416) := by
    intro x hx
    have h1 : x.1 ∈ N2 ++ N3 := by rw [← HM7.out]; exact List.mem_map_of_mem hx
    simp [N2, N1, N3] at h1
    rcases h1 with h | h | h | h | h | h | h <;> rw [h] <;> decide
  have hN9 : Blk w9 w8.heap.size 53 #[.int .i64 2, .slice (some ⟨q8, 0, none⟩) 2 2, .int .i64 0, .bool false, .int .i64 0] := (Blk.new w8 53 _).turned hs9 (fun h => h)
  have hS89 : Same w8 w9 := ((Turned.refl _ _).alloc _).trans hs9 (fun _ h => h.elim)
  have HS9 := Lib.hid (HS8.out.later hS89)
  have c0 := (hS89.cell (p := ⟨q8, 0, none⟩) bl8 (fun h => h)).trans b0
  have c1 := (hS89.cell (p := ⟨q8, 1, none⟩) bl8 (fun h => h)).trans b1
  have cl : q8 < w9.heap.size := by have := hS89.size; omega
  have HN9 := Lib.hid hN9
  clear hs9 hN9 hS89 b0 b1 bl8
  go_wp2_with fail
  refine (head_any w9 b 8 v7 _ HS9.out.hp hr7.out hA7.out 4).mono ?_
  rw [HM7.out, head2]
  rintro e w10 ⟨rfl, hs10⟩
  have hN10 := HN9.out.turned hs10 (fun h => h)
  obtain ⟨n0, n1, n2, n3, n4⟩ := hN10.five
  have d0 := (hs10.cell (p := ⟨q8, 0, none⟩) cl (fun h => h)).trans c0
  have d1 := (hs10.cell (p := ⟨q8, 1, none⟩) cl (fun h => h)).trans c1
  have HS10 := Lib.hid (HS9.out.later hs10)
  clear hs10 hN10 c0 c1 cl
  go_wp2_with fail
  all_goals go_ret
  all_goals exact ⟨rfl, HS10.out.same⟩
end Go.Proofs.Yteohhiefchoamaa
