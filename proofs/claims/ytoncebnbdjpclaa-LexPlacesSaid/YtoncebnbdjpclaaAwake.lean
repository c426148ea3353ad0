/-
  The walks of awake and of LexNames.
-/
import Derived.Test.YtoncebnbdjpclaaSame
namespace Go.Proofs.Ytoncebnbdjpclaa
open Go.RowKit

def ex1 : List Tok := [⟨1, 0, ⟨#[97, 50]⟩⟩, ⟨2, 2, ⟨#[66, 51]⟩⟩, ⟨8, 5, ⟨#[45, 62]⟩⟩, ⟨13, 11, ⟨#[]⟩⟩]
theorem scan_ex1 : scanAll [97, 50, 66, 51, 32, 45, 62, 32, 37, 32, 120] = (ex1, none) := by rfl
theorem scan_ex2 : scanAll [97, 32, 45, 32, 98] = ([], some (31, 2)) := by rfl

set_option maxRecDepth 100000 in
set_option maxHeartbeats 4000000 in
theorem awake_any (w : World) : Calls Try.prog 7 #[] w fun e w' => e = .returned (.bool true) ∧ Same w w' := by
  go_enter Try.func7, Try.ntmps7
  go_wp2_with fail
  refine (scan_any _ _ [97, 50, 66, 51, 32, 45, 62, 32, 37, 32, 120] rfl (by decide)).mono ?_
  rintro e w1 ⟨v1, ev1, rfl, hs1, ho1, he1, _⟩
  rw [scan_ex1] at ho1 he1
  obtain ⟨a1, c1, rfl, _, _⟩ := own_shape ho1
  have HS1 := Lib.hid hs1; have HT1 := Lib.hid (TRd.of_own ho1)
  obtain rfl : ev1 = .nilIface := he1
  clear hs1 ho1
  go_wp2_with fail
  refine (scan_any _ _ [97, 32, 45, 32, 98] rfl (by decide)).mono ?_
  rintro e w2 ⟨v2, ev2, rfl, hs2, ho2, he2, _⟩
  rw [scan_ex2] at ho2 he2
  have HE2 := Lib.hid he2
  have HS2 := Lib.hid (HS1.out.trans hs2 (fun _ h => h.elim)); have HT2 := Lib.hid (HT1.out.same hs2)
  clear hs2 ho2 he2
  go_wp2_with fail
  refine (same_any _ .nilIface (.slice none 0 0) none rfl ⟨_, _, rfl⟩).mono ?_
  rintro e w3 ⟨rfl, hs3⟩
  have HE3 := Lib.hid (HE2.out.same hs3)
  have HS3 := Lib.hid (HS2.out.trans hs3 (fun _ h => h.elim)); have HT3 := Lib.hid (HT2.out.same hs3)
  clear hs3
  go_wp2_with fail
  have HSa : Hid (Same w (w3.alloc (Obj.cells #[Value.int IntKind.i64 31, Value.int IntKind.i64 2] 37))) := HS3.out.alloc _
  have HTa : Hid (TRd (w3.alloc (Obj.cells #[Value.int IntKind.i64 31, Value.int IntKind.i64 2] 37)) (.slice a1 ex1.length c1) ex1) := HT3.out.same ((Turned.refl _ _).alloc _)
  refine (same_any _ ev2 _ (some (31, 2)) (HE3.out.same ((Turned.refl _ _).alloc _)) ⟨_, _, rfl, Blk.new w3 37 _⟩).mono ?_
  rintro e w4 ⟨rfl, hs4⟩
  have HS4 := Lib.hid (HSa.out.trans hs4 (fun _ h => h.elim)); have HT4 := Lib.hid (HTa.out.same hs4)
  clear hs4
  obtain ⟨A, c, ea, hA⟩ := HT4.out
  injection ea with e1 _ e2
  subst e1; subst e2
  obtain ⟨g, rfl, hc⟩ := hA (by decide)
  obtain ⟨b0, b1, b2⟩ := hc 1 (by decide)
  obtain ⟨d0, d1, d2⟩ := hc 3 (by decide)
  simp [ex1] at b0 b1 b2 d0 d1 d2
  have hl : ex1.length = 4 := rfl
  rw [hl]
  clear hc hA hl
  go_wp2_with fail
  go_ret
  exact ⟨rfl, HS4.out⟩

theorem names_law (w : World) : Calls Try.prog 3 #[] w fun e w' => e = .returned (.bool true) ∧ Below w.heap.size w w' := by
  go_enter Try.func3, Try.ntmps3
  go_wp2_with fail
  refine (awake_any _).mono ?_
  rintro e w1 ⟨rfl, h1⟩
  go_wp2_with fail
  go_ret
  exact ⟨rfl, h1.below (Nat.le_refl _) (fun _ h => h.elim)⟩
end Go.Proofs.Ytoncebnbdjpclaa
