/-
  The walk of awake: the document's first calls.
-/
import Derived.Test.YtpknnhdpnmkpcaaWalk3
namespace Go.Proofs.Ytpknnhdpnmkpcaa
open Go.RowKit Go.Maps
open Go.WideMaps Go.WideElems

def symS : Sym := ⟨⟨#[115]⟩, 1, false⟩
def symAdd : Sym := ⟨⟨#[97, 100, 100]⟩, 2, true⟩
def symS0 : Sym := ⟨⟨#[115]⟩, 0, false⟩

theorem Below.same_ {w w' : World} (h : Below w.heap.size w w') : Same w w' := ⟨h.os, h.tape, h.output, h.size, fun k hk _ => h.block k hk⟩

set_option maxHeartbeats 1000000 in
theorem awake_any (w : World) : Calls Try.prog 7 #[] w fun e w' => e = .returned (.bool true) ∧ Same w w' := by
  have e1 : addErr [] symS = 0 := by decide
  have e2 : addErr [symS] symAdd = 0 := by decide
  have e3 : addErr [symS, symAdd] symS0 = 12 := by decide
  have e4 : findL [symS, symAdd] ⟨#[97, 100, 100]⟩ = some 1 := by decide
  go_enter Try.func7, Try.ntmps7
  go_wp2_with fail
  refine (new_any _).mono ?_
  rintro e w1 ⟨b, bm, rfl, h1, hs1, hb, hbm⟩
  go_wp2_with fail
  refine (add_ok _ b bm _ [] h1 symS (by decide) e1).mono ?_
  rintro e w2 ⟨v2, rfl, h2, hs2, hv2⟩
  have hn2 : Turned (foot b bm (.slice none 0 0)) w1 w2 := hs2
  have hs3 : Turned (fun i => w.heap.size ≤ i) w w2 := (hs1.mono (fun _ h => h.elim)).trans hs2 (fun i hi => by
    rcases hi with rfl | rfl | hi
    · exact .inl hb
    · exact .inl hbm
    · simp [Value.ownBlock] at hi)
  have ho2 : ∀ k, v2.ownBlock = some k → w.heap.size ≤ k := by
    intro k hk
    rcases hv2 with h | ⟨j, h, hj⟩
    · rw [h] at hk; simp [Value.ownBlock] at hk
    · rw [h] at hk
      obtain rfl : j = k := by simpa using hk
      exact Nat.le_trans hs1.size hj
  have HS3 := Lib.hid hs3; have HO2 := Lib.hid ho2
  clear hs3 ho2 hs2 hn2 hv2 hs1
  go_wp2_with fail
  refine (add_ok _ b bm _ [symS] h2 symAdd (by decide) e2).mono ?_
  rintro e w3 ⟨v3, rfl, h3, hs4, hv3⟩
  have hs5 : Turned (fun i => w.heap.size ≤ i) w w3 := HS3.out.trans hs4 (fun i hi => by
    rcases hi with rfl | rfl | hi
    · exact .inl hb
    · exact .inl hbm
    · exact .inl (HO2.out _ hi))
  have HS5 := Lib.hid hs5
  clear hs5 hs4 hv3
  go_wp2_with fail
  refine (find_some _ b bm _ [symS, symAdd] h3 ⟨#[97, 100, 100]⟩ (by decide) 1 e4).mono ?_
  rintro e w3' ⟨rfl, rfl⟩
  go_wp2_with fail
  refine (add_bad _ b bm _ [symS, symAdd] h3 symS0 (by decide) (by rw [e3]; decide)).mono ?_
  rw [e3]
  rintro e w4 ⟨rfl, hs6⟩
  have h4 : SigAt w4 b bm v3 [symS, symAdd] := h3.turned hs6 (fun _ _ h => h)
  have HS7 := Lib.hid (HS5.out.trans hs6 (fun _ h => h.elim))
  clear hs6
  go_wp2_with (first | (go_at_call 10; refine (len_any _ b bm _ [symS, symAdd] h4).mono ?_; rintro e w' ⟨rfl, rfl⟩))
  all_goals go_ret
  all_goals exact ⟨rfl, Below.same_ (HS7.out.below (Nat.le_refl _) (fun _ h => h))⟩

end Go.Proofs.Ytpknnhdpnmkpcaa
