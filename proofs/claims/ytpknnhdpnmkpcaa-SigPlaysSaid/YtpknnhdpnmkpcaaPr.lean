/-
  A signature and the document's, of one list, apart; the law's step where it adds; pick.
-/
import Derived.Test.YtpknnhdpnmkpcaaCopy
import Derived.Test.YtpknnhdpnmkpcaaNumbers
import Derived.Test.YtpknnhdpnmkpcaaRefAdd
namespace Go.Proofs.Ytpknnhdpnmkpcaa
open Go.RowKit

/-- The blocks of both. -/
def pfoot (b bm : Nat) (v : Value) (r : Nat) (u : Value) : Nat → Prop := fun k => foot b bm v k ∨ rfoot r u k
structure Pr (w : World) (b bm : Nat) (v : Value) (r : Nat) (u : Value) (L : List Sym) : Prop where
  sig : SigAt w b bm v L
  ref : RSig w r u L
  good : Good L
  apart : ∀ k, foot b bm v k → ¬ rfoot r u k
theorem rfoot_lt {w : World} {r : Nat} {u : Value} {L : List Sym} (h : RSig w r u L) : ∀ k, rfoot r u k → k < w.heap.size := by
  intro k hk
  rcases hk with rfl | hk
  · exact h.blk.lt
  · exact (h.own.lt k hk).2
theorem Pr.lt {w : World} {b bm r : Nat} {v u : Value} {L : List Sym} (h : Pr w b bm v r u L) : ∀ k, pfoot b bm v r u k → k < w.heap.size := by
  intro k hk
  rcases hk with hk | hk
  · exact foot_lt h.sig k hk
  · exact rfoot_lt h.ref k hk
theorem RSig.turned_ {w w' : World} {r : Nat} {u : Value} {L : List Sym} {S : Nat → Prop} (h : RSig w r u L) (ht : Turned S w w') (hn : ∀ k, rfoot r u k → ¬ S k) : RSig w' r u L :=
  h.turned ht (hn r (.inl rfl)) (fun k hk => hn k (.inr hk))
theorem Pr.turned {w w' : World} {b bm r : Nat} {v u : Value} {L : List Sym} {S : Nat → Prop} (h : Pr w b bm v r u L) (ht : Turned S w w') (hn : ∀ k, pfoot b bm v r u k → ¬ S k) : Pr w' b bm v r u L :=
  ⟨h.sig.turned ht (fun k hk => hn k (.inl hk)), h.ref.turned_ ht (fun k hk => hn k (.inr hk)), h.good, h.apart⟩
theorem Pr.below {w w' : World} {b bm r : Nat} {v u : Value} {L : List Sym} (h : Pr w b bm v r u L) (hb : Below w.heap.size w w') : Pr w' b bm v r u L :=
  h.turned (below_turned hb) (fun k hk hge => by have := h.lt k hk; omega)
theorem Pr.same {w w' : World} {b bm r : Nat} {v u : Value} {L : List Sym} (h : Pr w b bm v r u L) (ht : Same w w') : Pr w' b bm v r u L := h.turned ht (fun _ _ h => h)

/-- What a step has done: both of one list again; nothing else that was there has turned. -/
def Did (w w' : World) (b bm : Nat) (v : Value) (r : Nat) (u : Value) : Prop :=
  ∃ v' u' L', Pr w' b bm v' r u' L' ∧ Turned (pfoot b bm v r u) w w' ∧ ∀ k, pfoot b bm v' r u' k → pfoot b bm v r u k ∨ w.heap.size ≤ k
theorem Did.of_below {w w' : World} {b bm r : Nat} {v u : Value} {L : List Sym} (h : Pr w b bm v r u L) (hb : Below w.heap.size w w') : Did w w' b bm v r u :=
  ⟨v, u, L, h.below hb, ⟨hb.os, hb.tape, hb.output, hb.size, fun k hk _ => hb.block k hk⟩, fun _ h => .inl h⟩
theorem Did.of_same {w w' : World} {b bm r : Nat} {v u : Value} {L : List Sym} (h : Pr w b bm v r u L) (hs : Same w w') : Did w w' b bm v r u :=
  ⟨v, u, L, h.same hs, hs.mono (fun _ h => h.elim), fun _ h => .inl h⟩
theorem Did.add {w w0 w1 w2 : World} {b bm r : Nat} {v u v' u' : Value} {L : List Sym} {x : Sym} (h : Pr w b bm v r u L) (h0 : Same w w0) (hs : x.name.size ≤ maxLen) (hE : addErr L x = 0)
    (h1 : SigAt w1 b bm v' (L ++ [x])) (t1 : Turned (foot b bm v) w0 w1) (n1 : v'.ownBlock = v.ownBlock ∨ ∃ k, v'.ownBlock = some k ∧ w0.heap.size ≤ k)
    (h2 : RSig w2 r u' (addL L x)) (t2 : Turned (rfoot r u) w1 w2) (n2 : u'.ownBlock = u.ownBlock ∨ ∃ k, u'.ownBlock = some k ∧ w1.heap.size ≤ k) : Did w w2 b bm v r u := by
  obtain ⟨_, _, _, hf, _⟩ := addErr_zero hE
  have hL : addL L x = L ++ [x] := by unfold addL; rw [if_pos hE]
  rw [hL] at h2
  have f1 : ∀ k, foot b bm v' k → foot b bm v k ∨ w0.heap.size ≤ k := by
    intro k hk
    rcases hk with rfl | rfl | hk
    · exact .inl (.inl rfl)
    · exact .inl (.inr (.inl rfl))
    · rcases n1 with e | ⟨j, e, hj⟩
      · exact .inl (.inr (.inr (by rw [← e]; exact hk)))
      · rw [e] at hk; obtain rfl := Option.some.inj hk; exact .inr hj
  have f2 : ∀ k, rfoot r u' k → rfoot r u k ∨ w1.heap.size ≤ k := by
    intro k hk
    rcases hk with rfl | hk
    · exact .inl (.inl rfl)
    · rcases n2 with e | ⟨j, e, hj⟩
      · exact .inl (.inr (by rw [← e]; exact hk))
      · rw [e] at hk; obtain rfl := Option.some.inj hk; exact .inr hj
  have s0 := h0.size
  have s1 := t1.size
  have ltr : ∀ k, rfoot r u k → k < w.heap.size := rfoot_lt h.ref
  have lt1 : ∀ k, foot b bm v' k → k < w1.heap.size := foot_lt h1
  refine ⟨v', u', L ++ [x], ⟨h1.turned t2 (fun k hk hr => ?_), h2, good_snoc h.good hf hs, fun k hk hr => ?_⟩, ?_, ?_⟩
  · rcases f1 k hk with h3 | h3
    · exact h.apart k h3 hr
    · have := ltr k hr; omega
  · rcases f2 k hr with h4 | h4
    · rcases f1 k hk with h3 | h3
      · exact h.apart k h3 h4
      · have := ltr k h4; omega
    · have := lt1 k hk; omega
  · exact ((h0.mono (fun _ h => h.elim)).trans t1 (fun i hi => .inl (.inl hi))).trans t2 (fun i hi => .inl (.inr hi))
  · intro k hk
    rcases hk with hk | hk
    · rcases f1 k hk with h3 | h3
      · exact .inl (.inl h3)
      · exact .inr (by omega)
    · rcases f2 k hk with h3 | h3
      · exact .inl (.inr h3)
      · exact .inr (by omega)

theorem Did.of_bad {w w0 w1 w2 : World} {b bm r : Nat} {v u u' : Value} {L : List Sym} {x : Sym} (h : Pr w b bm v r u L) (h0 : Same w w0) (hE : addErr L x ≠ 0) (h1 : Pr w1 b bm v r u L) (t1 : Same w0 w1)
    (h2 : RSig w2 r u' (addL L x)) (t2 : Turned (rfoot r u) w1 w2) (n2 : u'.ownBlock = u.ownBlock ∨ ∃ k, u'.ownBlock = some k ∧ w1.heap.size ≤ k) : Did w w2 b bm v r u := by
  have hL : addL L x = L := by unfold addL; rw [if_neg hE]
  rw [hL] at h2
  have s0 := h0.size
  have s1 := t1.size
  have f2 : ∀ k, rfoot r u' k → rfoot r u k ∨ w1.heap.size ≤ k := by
    intro k hk
    rcases hk with rfl | hk
    · exact .inl (.inl rfl)
    · rcases n2 with e | ⟨j, e, hj⟩
      · exact .inl (.inr (by rw [← e]; exact hk))
      · rw [e] at hk; obtain rfl := Option.some.inj hk; exact .inr hj
  have lt1 : ∀ k, foot b bm v k → k < w1.heap.size := foot_lt h1.sig
  refine ⟨v, u', L, ⟨h1.sig.turned t2 (fun k hk hr => h.apart k hk hr), h2, h.good, fun k hk hr => ?_⟩, ?_, ?_⟩
  · rcases f2 k hr with h4 | h4
    · exact h.apart k hk h4
    · have := lt1 k hk; omega
  · exact ((h0.trans t1 (fun _ h => h.elim)).mono (fun _ h => h.elim)).trans t2 (fun i hi => .inl (.inr hi))
  · intro k hk
    rcases hk with hk | hk
    · exact .inl (.inl hk)
    · rcases f2 k hk with h3 | h3
      · exact .inl (.inr h3)
      · exact .inr (by omega)

def pickI (c n : Int) : Int := Int.tmod (if c < 0 then -(c + 1) else c) n
def I64 (c : Int) : Prop := -9223372036854775808 ≤ c ∧ c ≤ 9223372036854775807

theorem pick_any (w : World) (c n : Int) (hc : I64 c) (hn : n = 2 ∨ n = 70) : Calls Try.prog 17 #[.int .i64 c, .int .i64 n] w fun e w' => e = .returned (.int .i64 (pickI c n)) ∧ w' = w := by
  obtain ⟨h1, h2⟩ := hc
  by_cases h0 : c < 0
  · have e : pickI c n = Int.tmod (-(c + 1)) n := by unfold pickI; rw [if_pos h0]
    rw [e]
    rcases hn with rfl | rfl
    all_goals
      go_enter Try.func17, Try.ntmps17
      go_wp2
      go_ret
      exact ⟨by simp [Int.neg_tmod], rfl⟩
  · have e : pickI c n = Int.tmod c n := by unfold pickI; rw [if_neg h0]
    rw [e]
    rcases hn with rfl | rfl
    all_goals
      go_enter Try.func17, Try.ntmps17
      go_wp2
      go_ret
      exact ⟨by rw [Int.tmod_eq_emod_of_nonneg (by omega)]; rfl, rfl⟩
theorem pick2 (c : Int) (hc : I64 c) : pickI c 2 = 0 ∨ pickI c 2 = 1 := by
  unfold pickI
  obtain ⟨h1, h2⟩ := hc
  split
  · rw [Int.tmod_eq_emod_of_nonneg (by omega)]; omega
  · rw [Int.tmod_eq_emod_of_nonneg (by omega)]; omega
theorem pick70 (c : Int) (hc : I64 c) : 0 ≤ pickI c 70 ∧ pickI c 70 ≤ 69 := by
  unfold pickI
  obtain ⟨h1, h2⟩ := hc
  split
  · rw [Int.tmod_eq_emod_of_nonneg (by omega)]; omega
  · rw [Int.tmod_eq_emod_of_nonneg (by omega)]; omega

/-- A step of a script. -/
structure OpD where
  on : Int
  kind : Int
  n : Int
  x : Sym
def OpD.val (o : OpD) : Value := .agg #[.int .i64 o.on, .int .i64 o.kind, .int .i64 o.n, .string o.x.name, .int .i64 o.x.arity, .bool o.x.defd]
def OpD.cells (o : OpD) : Array Value := #[.int .i64 o.on, .int .i64 o.kind, .int .i64 o.n, .string o.x.name, .int .i64 o.x.arity, .bool o.x.defd]
end Go.Proofs.Ytpknnhdpnmkpcaa
