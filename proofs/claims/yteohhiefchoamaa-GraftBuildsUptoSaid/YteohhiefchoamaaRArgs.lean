/-
  The walks of the document's End and Args.
-/
import Derived.Test.YteohhiefchoamaaTops
import Derived.Test.YteohhiefchoamaaRefTerm
import Derived.Test.YteohhiefchoamaaRTerm
namespace Go.Proofs.Yteohhiefchoamaa
open Go.RowKit

theorem consF_step (L : List Sym) {t : List Int} {k w : Nat} (hk : k < t.length) : consF L (w + 1) (t.drop k) = 1 + consF L (w + arN L t[k]) (t.drop (k + 1)) := by
  rw [List.drop_eq_getElem_cons hk]; rfl
set_option maxHeartbeats 2000000 in
theorem rend_any (w : World) (v : Value) (L : List Sym) (h : SymRd w v L) (hL : ∀ x ∈ L, 0 ≤ x.arity ∧ x.arity ≤ 6) (tv : Value) (t : List Int) (hR : Rd w tv t) (hlen : t.length ≤ 2000) (at_ : Nat) (hat : at_ ≤ t.length) :
    Calls Try.prog 82 #[v, tv, .int .i64 at_] w fun e w' => e = .returned (.int .i64 ((at_ + consF L 1 (t.drop at_) : Nat) : Int)) ∧ w = w' := by
  have HS := Lib.hid h; have HL := Lib.hid hL
  obtain ⟨A, c, rfl, hA⟩ := hR
  have HA := Lib.hid hA
  obtain ⟨E, hE⟩ : ∃ E, E = at_ + consF L 1 (t.drop at_) := ⟨_, rfl⟩
  have HE := Lib.hid hE
  rw [← hE]
  clear hL hA hE h
  go_enter Try.func82, Try.ntmps82
  go_wp2_with fail
  go_loopw [7, 8] (fun wv iv wr => ∃ k wa : Nat, at_ ≤ k ∧ k ≤ t.length ∧ wa ≤ 6 * k + 1 ∧ iv = .int .i64 k ∧ wv = .int .i64 wa ∧ Hid (k + consF L wa (t.drop k) = E) ∧ w = wr) (fun _ iv _ => t.length - (intOf iv).toNat)
  case atStart => exact ⟨at_, 1, Nat.le_refl _, hat, by omega, rfl, rfl, HE.out.symm, rfl⟩
  case round =>
    obtain ⟨k, wa, hk1, hk2, hwa, rfl, rfl, HV, rfl⟩ := hrel
    by_cases hlt : k < t.length
    · have hk0 : (0 : Int) ≤ k := by omega
      have hk3 : (k : Int) < t.length := by omega
      cases wa with
      | zero =>
        have HF : Hid (E = k) := by rw [← HV.out, consF_zero]; rfl
        go_wp2_with fail
        go_ret
        exact ⟨by rw [HF.out]; rfl, rfl⟩
      | succ wa =>
        obtain ⟨bl, off, rfl, hc⟩ := HA.out (by omega)
        have hd := hc k hlt
        have HSt := Lib.hid (consF_step L (w := wa) hlt)
        obtain ⟨x, hx⟩ : ∃ x, x = t[k] := ⟨_, rfl⟩
        rw [← hx] at hd HSt
        have hw0 : (0 : Int) < ((wa + 1 : Nat) : Int) := by omega
        have HAr := Lib.hid (arN_le HL.out x)
        clear hc hx
        go_wp2_with fail
        refine (rarity_any _ v L HS.out HL.out x).mono ?_
        rintro e w1 ⟨rfl, rfl⟩
        have HN : Hid (k + 1 + consF L (wa + arN L x) (t.drop (k + 1)) = E) := by rw [← HV.out, HSt.out]; unfold Hid; omega
        obtain ⟨ar, har⟩ : ∃ ar, ar = arN L x := ⟨_, rfl⟩
        rw [← har] at HN HAr ⊢
        have har6 : ar ≤ 6 := HAr.out
        clear har
        go_wp2_with fail
        go_roundw
        case rel => exact ⟨k + 1, wa + ar, by omega, by omega, by omega, by go_num, by congr 1, HN.out, trivial⟩
        case measure => simp [intOf]; omega
    · have hkk : k = t.length := by omega
      subst hkk
      have HF : Hid (E = t.length) := by
        rw [← HV.out, List.drop_length]
        cases wa <;> rfl
      go_wp2_with fail
      go_ret
      exact ⟨by rw [HF.out]; rfl, rfl⟩

structure ArgsI (w wr : World) (ov : Value) (O : List Nat) : Prop where
  same : Same w wr
  own : wr.ownsRow 0 3 1 ov O.length (nInts (O.map fun (p : Nat) => (p : Int)))
  new : ∀ k, ov.ownBlock = some k → w.heap.size ≤ k
theorem ArgsI.push {w wr w1 w2 : World} {ov ov2 : Value} {O : List Nat} {p : Nat} (h : ArgsI w wr ov O) (hs : Same wr w1) (ho : w2.ownsRow 0 3 1 ov2 (O.length + 1) (nInts (O.map fun (p : Nat) => (p : Int)) ++ nInts [(p : Int)])) (hg : w1.grownBy w2 ov.ownBlock) (hat : ov2.ownBlock = ov.ownBlock ∨ ov2.ownBlock = some w1.heap.size) : ArgsI w w2 ov2 (O ++ [p]) := by
  have h1 := h.same.trans hs (fun _ h => h.elim)
  refine ⟨h1.trans ((Turned.refl (fun k => ov.ownBlock = some k) w1).grown hg (fun k hk => .inl hk)) (fun i hi => .inr (h.new i hi)), ?_, fun k hk => ?_⟩
  · rw [List.length_append, List.map_append, show nInts ((O.map fun (p : Nat) => (p : Int)) ++ [p].map fun (p : Nat) => (p : Int)) = nInts (O.map fun (p : Nat) => (p : Int)) ++ nInts [(p : Int)] from by simp [nInts]]
    exact ho
  · rcases hat with e | e
    · exact h.new k (e.symm.trans hk)
    · have e2 := e.symm.trans hk
      obtain rfl : w1.heap.size = k := by simpa using e2
      exact h1.size

set_option maxRecDepth 100000 in
set_option maxHeartbeats 4000000 in
/-- The places of the arguments at a place, where as many are there as its symbol wants. -/
theorem rargs_any (w : World) (v : Value) (L : List Sym) (h : SymRd w v L) (hL : ∀ x ∈ L, 0 ≤ x.arity ∧ x.arity ≤ 6) (tv : Value) (t : List Int) (hR : Rd w tv t) (hlen : t.length ≤ 2000) (i : Nat) (hi : i < t.length) (hen : arN L t[i] ≤ (topsF L (t.drop (i + 1)) (i + 1)).length) :
    Calls Try.prog 65 #[v, tv, .int .i64 i] w fun e w' => ∃ ov, e = .returned ov ∧ Rd w' ov (((topsF L (t.drop (i + 1)) (i + 1)).take (arN L t[i])).map fun (p : Nat) => (p : Int)) ∧ Same w w' := by
  have HS := Lib.hid h; have HL := Lib.hid hL; have HR := Lib.hid hR
  obtain ⟨A, c, rfl, hA⟩ := hR
  obtain ⟨T, hT⟩ : ∃ T, T = topsF L (t.drop (i + 1)) (i + 1) := ⟨_, rfl⟩
  have HT := Lib.hid hT
  rw [← hT] at hen ⊢
  obtain ⟨x, hx⟩ : ∃ x, x = t[i] := ⟨_, rfl⟩
  obtain ⟨bl, off, rfl, hc⟩ := hA (by omega)
  have hdw := hc i hi
  rw [← hx] at hen hdw ⊢
  have hbl := World.block_lt_of_cell? _ _ hdw
  obtain ⟨ar, har⟩ : ∃ ar, ar = arN L x := ⟨_, rfl⟩
  rw [← har] at hen ⊢
  have har6 : ar ≤ 6 := by rw [har]; exact arN_le HL.out x
  have HAr := Lib.hid har; have HEn := Lib.hid hen; have HDw := Lib.hid hdw; have HBl := Lib.hid hbl
  have hi0 : (0 : Int) ≤ i := by omega
  have hi1 : (i : Int) < t.length := by omega
  obtain ⟨i0, hi0', hz0, hz1, hz2⟩ := info_parts info3
  have HI : Hid (Try.prog.info? 3 = some i0 ∧ i0.zero = some (.int .i64 0) ∧ i0.size = 1 ∧ i0.bytes = 8) := ⟨hi0', hz0, hz1, hz2⟩
  clear h hL hA hT hc hx har hi0' hz0 hz1 hz2 hdw hbl hen
  go_enter Try.func65, Try.ntmps65
  go_wp2_with fail
  go_loopw [7, 8, 9] (fun ov iv kv wr => ∃ k p : Nat, k ≤ ar ∧ p ≤ t.length ∧ kv = .int .i64 k ∧ iv = .int .i64 p ∧ (∃ oa oc, ov = .slice oa k oc) ∧ Hid (ArgsI w wr ov (T.take k) ∧ T.drop k = topsF L (t.drop p) p)) (fun _ _ kv _ => ar - (intOf kv).toNat)
  case atStart => exact ⟨0, i + 1, Nat.zero_le _, by omega, rfl, by go_num, ⟨_, _, rfl⟩, ⟨Turned.refl _ _, World.ownsRow_nil _ _ _ _, fun k hk => by simp [Value.ownBlock] at hk⟩, HT.out⟩
  case round =>
    obtain ⟨k, p, hk, hp, rfl, rfl, ⟨oa, oc, rfl⟩, HV⟩ := hrel
    have hd := (HV.out.1.same.cell (p := ⟨bl, off + i, none⟩) HBl.out (fun h => h)).trans HDw.out
    have HSr := Lib.hid (HS.out.same HV.out.1.same)
    have HRr := Lib.hid (HR.out.same_ HV.out.1.same)
    by_cases hlt : k < ar
    · have hkT : k < T.length := by have := HEn.out; omega
      have htk : T.take (k + 1) = T.take k ++ [T[k]] := List.take_succ_eq_append_getElem hkT
      have hdk : T.drop k = T[k] :: T.drop (k + 1) := List.drop_eq_getElem_cons hkT
      have hpl : p < t.length := by
        rcases Nat.lt_or_ge p t.length with h | h
        · exact h
        · have h2 := HV.out.2
          rw [List.drop_eq_nil_of_le h, hdk] at h2
          cases h2
      have hTk : T[k] = p := by
        have h2 := HV.out.2
        rw [hdk, List.drop_eq_getElem_cons hpl] at h2
        simp only [topsF] at h2
        injection h2
      have HTk : Hid (T.take (k + 1) = T.take k ++ [p]) := by rw [htk, hTk]; rfl
      have HDk : Hid (T.drop (k + 1) = topsF L (t.drop (p + consF L 1 (t.drop p))) (p + consF L 1 (t.drop p))) := by
        have h3 : T.drop (k + 1) = (T.drop k).drop 1 := by rw [List.drop_drop]
        rw [h3, HV.out.2, topsF_drop, List.drop_drop]; rfl
      have HCle : Hid (p + consF L 1 (t.drop p) ≤ t.length) := by
        have := consF_le L (t.drop p) 1
        rw [List.length_drop] at this
        unfold Hid; omega
      have HLk : Hid ((T.take k).length = k) := by rw [List.length_take]; unfold Hid; omega
      have HO : Hid (wr.ownsRow 0 3 1 (.slice oa k oc) k (nInts ((T.take k).map fun (p : Nat) => (p : Int)))) := by have h1 := HV.out.1.own; rwa [HLk.out] at h1
      clear htk hdk hTk hkT
      go_wp2_with (first | (go_at_call 81; refine (rarity_any _ v L HSr.out HL.out x).mono ?_; rintro e w1 ⟨rfl, rfl⟩; rw [← HAr.out]) | (at_builtin; go_loud (refine wpList_append_src _ rfl _ _ 26 rfl 3 i0 _ 1 8 Try.underlying26 HI.out.1 HI.out.2.1 HI.out.2.2.1 HI.out.2.2.2 rfl (by omega) (.slice oa k oc) k (nInts ((T.take k).map fun (p : Nat) => (p : Int))) rfl (by exact World.ownsRow.alloc HO.out _) (some ⟨wr.heap.size, 0, none⟩) 1 1 (nInts [(p : Int)]) rfl (by simp [nInts]) (by exact fun _ => src_new wr (nInts [(p : Int)]) 3 (by omega)) (nInts_one _) (by unfold maxLen; omega) (by omega) ?_)))
      intro a6 c6 w6 ho6 hg6 hat6
      have HN : Hid (ArgsI w w6 (.slice a6 (k + 1) c6) (T.take (k + 1))) := by
        rw [HTk.out]
        exact HV.out.1.push (w1 := wr.alloc (.cells #[.int .i64 p] 3)) ((Turned.refl _ _).alloc _) (by rw [HLk.out, List.map_take]; exact ho6) hg6 (by rw [World.size_alloc]; exact hat6)
      clear ho6 hg6 hat6 HO hd
      go_wp2_with fail
      refine (rend_any _ v L (HS.out.same HN.out.same) HL.out _ t (HR.out.same_ HN.out.same) hlen p hp).mono ?_
      rintro e w7 ⟨rfl, rfl⟩
      obtain ⟨p2, hp2⟩ : ∃ p2, p2 = p + consF L 1 (t.drop p) := ⟨_, rfl⟩
      rw [← hp2] at HDk HCle ⊢
      clear hp2
      go_wp2_with fail
      go_roundw
      case rel => exact ⟨k + 1, p2, by omega, HCle.out, by go_num, rfl, ⟨_, _, rfl⟩, HN.out, HDk.out⟩
      case measure => simp [intOf]; omega
    · have hkk : k = ar := by omega
      subst hkk
      have HE : Hid (Rd wr (.slice oa k oc) ((T.take k).map fun (p : Nat) => (p : Int))) := by
        have h1 := HV.out.1.own
        have h2 : ((T.take k).map fun (p : Nat) => (p : Int)).length = (T.take k).length := by simp
        have h3 : (T.take k).length = k := by rw [List.length_take]; have := HEn.out; omega
        rw [← h2] at h1
        exact own_rd h1
      go_wp2_with (first | (go_at_call 81; refine (rarity_any _ v L HSr.out HL.out x).mono ?_; rintro e w1 ⟨rfl, rfl⟩; rw [← HAr.out]))
      go_ret
      exact ⟨_, rfl, HE.out, HV.out.1.same⟩
end Go.Proofs.Yteohhiefchoamaa
