/-
  The law's 'do': its first lines, and the calls 1, 4, 8.
-/
import Derived.Test.YthfhjopofpffgaaPair
namespace Go.Proofs.Ythfhjopofpffgaa
open Go.RowKit

abbrev opval (kind : Int) (two : Bool) (f : Fr) (pv lv : Value) : Value := .agg #[.int .i64 kind, .bool two, .int .i64 f.node, .bool f.whole, .int .i64 f.next, pv, lv]
abbrev opcells (kind : Int) (two : Bool) (f : Fr) (pv lv : Value) : Array Value := #[.int .i64 kind, .bool two, .int .i64 f.node, .bool f.whole, .int .i64 f.next, pv, lv]

/-- What stands behind the first lines of 'do', as long as only blocks that the spines own, or later ones, turn. -/
structure DoAt (w wr : World) (B : Nat) (kind : Int) (two : Bool) (f : Fr) (pv lv : Value) (L : List Int) (tv : Value) (g : Nat) : Prop where
  ob : Blk wr w.heap.size 49 (opcells kind two f pv lv)
  fb : Blk wr (w.heap.size + 1) 25 #[.int .i64 f.node, .bool f.whole, .int .i64 f.next, tv]
  rp : ROld wr B pv f.path
  rl : ROld wr B lv L
  lent : LentAt wr tv f.path g
  g2 : w.heap.size + 2 ≤ g
theorem DoAt.keep {w wr w' : World} {B : Nat} {kind : Int} {two : Bool} {f : Fr} {pv lv : Value} {L : List Int} {tv : Value} {g : Nat} {S : Nat → Prop} (h : DoAt w wr B kind two f pv lv L tv g) (ht : Turned S wr w') (hS : ∀ k, S k → B ≤ k ∧ (k < w.heap.size ∨ g < k)) : DoAt w w' B kind two f pv lv L tv g := by
  have hg := h.g2
  exact ⟨h.ob.turned ht (fun hs => by have := (hS _ hs).2; omega), h.fb.turned ht (fun hs => by have := (hS _ hs).2; omega), h.rp.keep (ht.mono (fun k hk => (hS k hk).1)), h.rl.keep (ht.mono (fun k hk => (hS k hk).1)), h.lent.turned ht (fun hs => by have := (hS _ hs).2; omega), h.g2⟩
theorem DoAt.same {w wr w' : World} {B : Nat} {kind : Int} {two : Bool} {f : Fr} {pv lv : Value} {L : List Int} {tv : Value} {g : Nat} (h : DoAt w wr B kind two f pv lv L tv g) (ht : Same wr w') : DoAt w w' B kind two f pv lv L tv g := h.keep ht (fun _ h => h.elim)
theorem Blk.seven {w : World} {g : Nat} {t : TypeId} {a b c d e f h : Value} (hh : Blk w g t #[a, b, c, d, e, f, h]) : w.cell? ⟨g, 0, none⟩ = some a ∧ w.cell? ⟨g, 1, none⟩ = some b ∧ w.cell? ⟨g, 2, none⟩ = some c ∧ w.cell? ⟨g, 3, none⟩ = some d ∧ w.cell? ⟨g, 4, none⟩ = some e ∧ w.cell? ⟨g, 5, none⟩ = some f ∧ w.cell? ⟨g, 6, none⟩ = some h :=
  ⟨(hh.cell 0).trans rfl, (hh.cell 1).trans rfl, (hh.cell 2).trans rfl, (hh.cell 3).trans rfl, (hh.cell 4).trans rfl, (hh.cell 5).trans rfl, (hh.cell 6).trans rfl⟩

/-- Behind lent: the store of what it told. -/
theorem DoAt.start {w w1 : World} {B : Nat} {kind : Int} {two : Bool} {f : Fr} {pv lv : Value} {L : List Int} {tv : Value} {g : Nat} (hB : B ≤ w.heap.size) (hp : ROld w B pv f.path) (hl : ROld w B lv L)
    (hs : Same ((w.alloc (.cells (opcells kind two f pv lv) 49)).alloc (.cells #[.int .i64 f.node, .bool f.whole, .int .i64 f.next, pv] 25)) w1) (ht : LentAt w1 tv f.path g) (hg : w.heap.size + 2 ≤ g) :
    DoAt w (w1.setCell ⟨w.heap.size + 1, 3, none⟩ tv) B kind two f pv lv L tv g ∧ Same w (w1.setCell ⟨w.heap.size + 1, 3, none⟩ tv) := by
  have h01 : Same w w1 := (((Turned.refl _ w).alloc _).alloc _).trans hs (fun _ h => h.elim)
  have hset : Turned (fun k => k = w.heap.size + 1) w1 (w1.setCell ⟨w.heap.size + 1, 3, none⟩ tv) := (Turned.refl (fun k => k = w.heap.size + 1) w1).setCell (p := ⟨w.heap.size + 1, 3, none⟩) (.inl rfl) tv
  have hob : Blk w1 w.heap.size 49 (opcells kind two f pv lv) := ((Blk.new w 49 _).alloc _).turned hs (fun h => h)
  have hfb : Blk w1 (w.heap.size + 1) 25 #[.int .i64 f.node, .bool f.whole, .int .i64 f.next, pv] := by
    have h := (Blk.new (w.alloc (.cells (opcells kind two f pv lv) 49)) 25 #[.int .i64 f.node, .bool f.whole, .int .i64 f.next, pv]).turned hs (fun h => h)
    simpa using h
  refine ⟨⟨hob.turned hset (by simp), (hfb.set_ 3 tv).trans rfl, ?_, ?_, ht.turned hset (by omega), hg⟩, h01.trans hset (fun i hi => .inr (by omega))⟩
  · exact (hp.keep (h01.mono (fun _ h => h.elim))).keep (hset.mono (fun k hk => by omega))
  · exact (hl.keep (h01.mono (fun _ h => h.elim))).keep (hset.mono (fun k hk => by omega))

/-- Behind held: the lent list is written over. -/
theorem Did.held {w w2 w4 w5 : World} {b r : Nat} {v u : Value} {F G : List FV} {X' : List Fr} {g : Nat} (h : Did w2 w4 b v F r u G X') (h02 : Same w w2) (ht : Turned (fun k => k = g) w4 w5) (hg : w.heap.size ≤ g) (hg2 : g < w2.heap.size) (hlt : ∀ k, pown b v F r u G k → k < w.heap.size) : Did w w5 b v F r u G X' := by
  obtain ⟨v', F', u', G', hp, h1, h2⟩ := h
  refine ⟨v', F', u', G', hp.turned ht (fun k hk e => ?_), (((h02.mono (fun _ h => h.elim)).trans h1 (fun i hi => .inl hi))).trans ht (fun i hi => .inr (by omega)), fun k hk => ?_⟩
  · rcases h2 k hk with h3 | h3
    · have := hlt k h3; omega
    · omega
  · rcases h2 k hk with h3 | h3
    · exact .inl h3
    · exact .inr (Nat.le_trans h02.size h3)
/-- How much more the spines may hold. -/
def Okay (X X' : List Fr) (f : Fr) : Prop := X'.length ≤ X.length + 1 ∧ (flatF X').length ≤ (flatF X).length + f.path.length
theorem Okay.refl (X : List Fr) (f : Fr) : Okay X X f := ⟨by omega, by omega⟩
theorem flatF_snoc_le (X : List Fr) (x : Fr) : (flatF (X ++ [x])).length = (flatF X).length + x.path.length := by simp [flatF]
theorem flatF_mvF (X : List Fr) (T : List Int) : flatF (mvF X T) = flatF X := by
  unfold flatF mvF
  rw [List.flatMap_def, List.flatMap_def]
  congr 1
  apply List.ext_getElem
  · simp
  · intro i h1 h2
    simp
/-- What Move says. -/
def mvC (n : Nat) (T : List Int) : Int := if T.length = n then (if neg T then 141 else 0) else 1
theorem move_c (w : World) (b : Nat) (v : Value) (F : List FV) (h : SpAt w b v F) (tv : Value) (T : List Int) (hT : RdS w (foot b v) tv T) (hl : T.length ≤ 17592186044416) (hF : F.length ≤ 17592186044416) :
    Calls Try.prog 23 #[.pointer (some ⟨b, 0, none⟩), tv] w fun e w' => e = .returned (.int .i64 (mvC F.length T)) ∧ Turned (foot b v) w w' ∧ ((mvC F.length T = 0 ∧ SpAt w' b v (mv F.length F T)) ∨ (mvC F.length T ≠ 0 ∧ SpAt w' b v F)) := by
  refine (move_rds w b v F h tv T hT hl hF).mono ?_
  rintro e w' (⟨rfl, hb, hs, ht⟩ | ⟨rfl, hlen, hb, hs, ht⟩)
  · have e1 : mvC F.length T = if T.length = F.length then 141 else 1 := by
      unfold mvC
      by_cases hh : T.length = F.length
      · rw [if_pos hh, if_pos hh, if_pos ((neg_iff T).2 (hb hh))]
      · rw [if_neg hh, if_neg hh]
    refine ⟨by rw [e1], ht.mono (fun _ h => h.elim), .inr ⟨?_, hs⟩⟩
    rw [e1]; split <;> decide
  · have e1 : mvC F.length T = 0 := by
      unfold mvC
      rw [if_pos hlen, if_neg]
      intro hn
      obtain ⟨a, ha, h0⟩ := (neg_iff T).1 hn
      have := hb a ha
      omega
    exact ⟨by rw [e1], ht, .inl ⟨e1, hs⟩⟩
theorem rmove_c (w : World) (b : Nat) (v : Value) (F : List FV) (h : RAt w b v F) (tv : Value) (T : List Int) (hT : RdS w (foot b v) tv T) (hl : T.length ≤ 17592186044) (hF : F.length ≤ 17592186044) :
    Calls Try.prog 41 #[.pointer (some ⟨b, 0, none⟩), tv] w fun e w' => e = .returned (.int .i64 (mvC F.length T)) ∧ Turned (foot b v) w w' ∧ ((mvC F.length T = 0 ∧ RAt w' b v (mv F.length F T)) ∨ (mvC F.length T ≠ 0 ∧ RAt w' b v F)) := by
  refine (rmove_any w b v F h tv T hT hl hF).mono ?_
  rintro e w' (⟨rfl, hlen, ht⟩ | ⟨rfl, hlen, hb, ht⟩ | ⟨rfl, hlen, hb, hs, ht⟩)
  · have e1 : mvC F.length T = 1 := by unfold mvC; rw [if_neg hlen]
    exact ⟨by rw [e1], ht.mono (fun _ h => h.elim), .inr ⟨by rw [e1]; decide, h.same ht⟩⟩
  · have e1 : mvC F.length T = 141 := by unfold mvC; rw [if_pos hlen, if_pos ((neg_iff T).2 hb)]
    exact ⟨by rw [e1], ht.mono (fun _ h => h.elim), .inr ⟨by rw [e1]; decide, h.same ht⟩⟩
  · have e1 : mvC F.length T = 0 := by
      unfold mvC
      rw [if_pos hlen, if_neg]
      intro hn
      obtain ⟨a, ha, h0⟩ := (neg_iff T).1 hn
      have := hb a ha
      omega
    exact ⟨by rw [e1], ht, .inl ⟨e1, hs⟩⟩
section
variable {w : World} {b r : Nat} {v u : Value} {F G : List FV} {X : List Fr} {B : Nat} {kind : Int} {two : Bool} {f : Fr} {pv lv : Value} {L : List Int}

set_option maxRecDepth 100000 in
set_option maxHeartbeats 4000000 in
theorem do_push (h : Pair w b v F r u G X) (hB : ∀ k, pown b v F r u G k → B ≤ k) (hBw : B ≤ w.heap.size) (hp : ROld w B pv f.path) (hl : ROld w B lv L) (hs1 : f.path.length ≤ 4194304) (hs2 : X.length ≤ 4194304) :
    Calls Try.prog 25 #[.pointer (some ⟨b, 0, none⟩), .pointer (some ⟨r, 0, none⟩), opval 1 two f pv lv] w fun e w' => e = .returned (.bool true) ∧ Did w w' b v F r u G (X ++ [f]) := by
  have H := Lib.hid h; have HB := Lib.hid hB; have HP := Lib.hid hp; have HL := Lib.hid hl; have HBW := Lib.hid hBw
  have HFl : Hid (F.length = X.length) := by rw [← h.fx]; simp [Hid]
  have HGl : Hid (G.length = X.length) := by rw [← h.gx]; simp [Hid]
  have HR : Hid (Rd ((w.alloc (.cells (opcells 1 two f pv lv) 49)).alloc (.cells #[.int .i64 f.node, .bool f.whole, .int .i64 f.next, pv] 25)) pv f.path) := hp.rd.turned (S := fun _ => False) (((Turned.refl _ _).alloc _).alloc _) (fun _ _ h => h)
  obtain ⟨pA, pc, rfl, _⟩ := HP.out
  obtain ⟨lA, lc, rfl, _⟩ := HL.out
  clear h hB hBw hp hl
  go_enter Try.func25, Try.ntmps25
  go_wp2_with fail
  refine (lent_any _ _ f.path HR.out (by omega)).mono ?_
  rintro e w1 ⟨tv, g, rfl, hT, hs, hg⟩
  have hg2 : w.heap.size + 2 ≤ g := by simpa using hg
  obtain ⟨tc, rfl, _, _⟩ := (show LentAt w1 tv f.path g from hT)
  have hst := DoAt.start HBW.out HP.out HL.out hs hT hg2
  have HD := Lib.hid hst.1; have HS0 := Lib.hid hst.2
  have HPr := Lib.hid (H.out.same hst.2)
  obtain ⟨p0, p1, p2, p3⟩ := hst.1.fb.four
  obtain ⟨o0, o1, o2, o3, o4, o5, o6⟩ := hst.1.ob.seven
  have hfl := hst.1.fb.lt
  have hob1 : Blk w1 (w.heap.size + 1) 25 #[.int .i64 f.node, .bool f.whole, .int .i64 f.next, .slice pA f.path.length pc] := by
    have h := (Blk.new (w.alloc (.cells (opcells 1 two f (.slice pA f.path.length pc) (.slice lA L.length lc)) 49)) 25 #[.int .i64 f.node, .bool f.whole, .int .i64 f.next, .slice pA f.path.length pc]).turned hs (fun h => h)
    simpa using h
  have q3 := hob1.four.2.2.2
  have qf := fun i => hob1.frozen i
  have hlt1 := hob1.lt
  clear hst hs hT hg hob1
  obtain ⟨w2, hw2⟩ : ∃ w2, w2 = w1.setCell ⟨w.heap.size + 1, 3, none⟩ (.slice (some ⟨g, 0, none⟩) f.path.length tc) := ⟨_, rfl⟩
  rw [← hw2] at HD HS0 HPr p0 p1 p2 p3 o0 o1 o2 o3 o4 o5 o6 hfl
  have HW2 := Lib.hid hw2
  clear hw2
  have HPO : Hid (∀ k, pown b v F r u G k → B ≤ k ∧ k < w.heap.size) := fun k hk => ⟨HB.out k hk, H.out.lt k hk⟩
  go_wp2_with (first | rw [← HW2.out])
  refine (push_any _ b v F HPr.out.sp f _ HD.out.lent.rd (by omega) (by have := HFl.out; omega)).mono ?_
  rintro e w3 ⟨v3, pv3, rfl, h3, ht3, hv3, hq3⟩
  have HD3 := Lib.hid (HD.out.keep ht3 (fun k hk => (HPO.out k (.inl hk)).imp id .inl))
  have HR3 := Lib.hid (HPr.out.rs.turned ht3 (fun k hk hf => HPr.out.sep k hf hk) (fun k hk hf => (HPr.out.fp k hf).2 hk))
  have HU3 : Hid (SpAt w3 b v3 (F ++ [(f, pv3)]) ∧ Turned (foot b v) w2 w3 ∧ (v3.ownBlock = v.ownBlock ∨ ∃ k, v3.ownBlock = some k ∧ w2.heap.size ≤ k) ∧ ∃ g, pv3 = .slice (some ⟨g, 0, none⟩) f.path.length f.path.length ∧ w2.heap.size ≤ g) := ⟨h3, ht3, hv3, hq3⟩
  obtain ⟨p0, p1, p2, p3⟩ := HD3.out.fb.four
  obtain ⟨o0, o1, o2, o3, o4, o5, o6⟩ := HD3.out.ob.seven
  clear h3 ht3 hv3 hq3
  go_wp2_with fail
  refine (rpush_any _ r u G HR3.out f _ HD3.out.rp.rd (by omega) (by have := HGl.out; omega)).mono ?_
  rintro e w4 ⟨u4, pu4, rfl, h4, ht4, hv4, hq4⟩
  have HD4 := Lib.hid (HD3.out.keep ht4 (fun k hk => (HPO.out k (.inr (.inr (.inl hk)))).imp id .inl))
  have HDid := Lib.hid ((Did.push HPr.out HU3.out.1 HU3.out.2.1 HU3.out.2.2.1 HU3.out.2.2.2 (Turned.refl _ _) h4 ht4 hv4 hq4))
  obtain ⟨p0, p1, p2, p3⟩ := HD4.out.fb.four
  obtain ⟨o0, o1, o2, o3, o4, o5, o6⟩ := HD4.out.ob.seven
  clear h4 ht4 hv4 hq4
  go_wp2_with fail
  refine (held_any _ _ _ f.path g HD4.out.lent (HD4.out.rp.rds (fun k hk => by have := HBW.out; omega)) (by omega)).mono ?_
  rintro e w5 ⟨rfl, ht5⟩
  have HFin : Hid (Did w w5 b v F r u G (X ++ [f])) := HDid.out.held HS0.out ht5 (by omega) HD.out.lent.lt (fun k hk => (HPO.out k hk).2)
  clear ht5
  go_wp2_with fail
  go_ret
  exact ⟨rfl, HFin.out⟩
end
end Go.Proofs.Ythfhjopofpffgaa
