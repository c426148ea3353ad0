/-
  The walks of silent and of LexPlaces.
-/
import Derived.Test.YtoncebnbdjpclaaPlaceLaw
import Derived.Test.YtoncebnbdjpclaaRef
import Derived.Test.YtoncebnbdjpclaaAwake
namespace Go.Proofs.Ytoncebnbdjpclaa
open Go.RowKit

set_option maxHeartbeats 2000000 in
theorem silent_any (s : ByteArray) (l : List UInt8) (hs : s.data.toList = l) (c : Bool) (hc : silS false l = some c) (h63 : s.size ≤ 20000) (w : World) :
    Calls Try.prog 12 #[.string s] w fun e w' => e = .returned (.bool true) ∧ Same w w' := by
  have hsl : s.size = l.length := by rw [← hs, Lib.size_eq]
  have HS := Lib.hid hs; have HC := Lib.hid hc; have HSL := Lib.hid hsl
  clear hs hc hsl
  go_enter Try.func12, Try.ntmps12
  go_wp2_with fail
  go_loopw [3, 4] (fun b i wr => ∃ (k : Nat) (cm : Bool), k ≤ s.size ∧ i = .int .i64 k ∧ b = .bool cm ∧ wr = w ∧ Hid (silS cm (l.drop k) = some c)) (fun _ i _ => s.size - (intOf i).toNat)
  case atStart => exact ⟨0, false, Nat.zero_le _, rfl, rfl, rfl, HC.out⟩
  case round =>
    obtain ⟨k, cm, hk, rfl, rfl, hw, HV⟩ := hrel
    subst hw
    have hkw : IntKind.i64.wrap ((k : Int) + 1) = (k : Int) + 1 := wrap_small _ (by omega) (by omega)
    by_cases hlt : k < s.size
    · have hkI : (k : Int) < s.size := by omega
      obtain ⟨hpl, hbyte⟩ := byte_at HS.out k hlt
      have hd : l.drop k = l[k] :: l.drop (k + 1) := List.drop_eq_getElem_cons hpl
      obtain ⟨b, hb⟩ : ∃ b, b = l[k] := ⟨_, rfl⟩
      rw [← hb] at hbyte hd
      have h1 := HV.out
      rw [hd] at h1
      have e : ∀ q : List UInt8, silS cm (b :: q) = if ((!(if b.toNat = 37 then true else if b.toNat = 10 then false else cm)) && !(blankN b.toNat)) = true then none else silS (if b.toNat = 37 then true else if b.toNat = 10 then false else cm) q := fun q => rfl
      rw [e] at h1
      have hix : ∀ W, (Instr.index 9 (.string s) (.int .i64 (k : Int))).run Try.prog W = .ok (.int .u8 b.toNat) W := by
        intro W
        rw [run_index_string W 9 s .i64 _ Try.underlying9, dif_pos (by omega)]
        simp only [Int.toNat_natCast, hbyte]
      obtain ⟨q, hq⟩ : ∃ q, q = blankN b.toNat := ⟨_, rfl⟩
      rw [← hq] at h1
      have HQ := Lib.hid hq
      have H1 := Lib.hid h1
      clear hd hb hbyte e h1 hq
      by_cases h10 : b.toNat = 10
      · have h10I : (b.toNat : Int) = 10 := by omega
        have hq1 : q = true := by rw [HQ.out, h10]; decide
        subst hq1
        have hN : Hid (silS false (l.drop (k + 1)) = some c) := by
          have h2 := H1.out
          rw [if_neg (show ¬ b.toNat = 37 by omega), if_pos h10] at h2
          unfold Hid
          simpa using h2
        clear h10
        go_wp2_with fail
        refine (blank_any 10 _).mono ?_
        rintro e w1 ⟨rfl, rfl⟩
        go_wp2_with fail
        exact ⟨⟨k + 1, false, by omega, by go_num, rfl, trivial, hN.out⟩, by simp [intOf]; omega⟩
      · have h10I : ¬ (b.toNat : Int) = 10 := by omega
        by_cases h37 : b.toNat = 37
        · have h37I : (b.toNat : Int) = 37 := by omega
          have hN : Hid (silS true (l.drop (k + 1)) = some c) := by
            have h2 := H1.out
            rw [if_pos h37] at h2
            unfold Hid
            simpa using h2
          clear h10 h37
          go_wp2_with fail
          refine (blank_any 37 _).mono ?_
          rintro e w1 ⟨rfl, rfl⟩
          go_wp2_with fail
          exact ⟨⟨k + 1, true, by omega, by go_num, rfl, trivial, hN.out⟩, by simp [intOf]; omega⟩
        · have h37I : ¬ (b.toNat : Int) = 37 := by omega
          have hN : Hid (silS cm (l.drop (k + 1)) = some c ∧ (cm = false → q = true)) := by
            have h2 := H1.out
            rw [if_neg h37, if_neg h10] at h2
            split at h2
            · cases h2
            · rename_i hh
              refine ⟨h2, fun h => ?_⟩
              rw [h] at hh
              cases q
              · exact absurd rfl hh
              · rfl
          clear h10 h37
          cases cm
          · have hq1 := hN.out.2 rfl
            subst hq1
            go_wp2_with fail
            refine (blank_any _ _).mono ?_
            rintro e w1 ⟨rfl, rfl⟩
            rw [← HQ.out]
            go_wp2_with fail
            exact ⟨⟨k + 1, false, by omega, by go_num, rfl, trivial, hN.out.1⟩, by simp [intOf]; omega⟩
          · go_wp2_with fail
            refine (blank_any _ _).mono ?_
            rintro e w1 ⟨rfl, rfl⟩
            go_wp2_with fail
            exact ⟨⟨k + 1, true, by omega, by go_num, rfl, trivial, hN.out.1⟩, by simp [intOf]; omega⟩
    · have hkI : ¬ (k : Int) < s.size := by omega
      go_wp2_with fail
      go_ret
      exact ⟨rfl, Turned.refl _ _⟩

theorem scanAll_le3 (l : List UInt8) : (scanAll l).1.length ≤ 20001 := by
  have key : ∀ (l : List UInt8) (off : Nat) (c : Bool) (k : Nat), (scanL off c k l).1.length ≤ l.length := by
    intro l
    induction l with
    | nil => intro off c k; exact Nat.le_refl _
    | cons b r ih =>
      intro off c k
      simp only [scanL]
      repeat' split
      all_goals simp only [List.length_cons, List.length_nil]
      all_goals first | omega | (have := ih (off + 1) c (k - 1); omega) | (have := ih (off + 1) (b != 10) 0; omega) | (have := ih (off + 1) true 0; omega) | (have := ih (off + 1) false 0; omega) | (have := ih (off + 1) false (lenAt (kindAt (b :: r)) (b :: r) - 1); omega)
  unfold scanAll
  split
  · simp
  · rename_i h
    have := key l 0 false 0
    split
    · simp
    · simp; omega
def endT (l : List UInt8) : Tok := ⟨13, l.length, ⟨#[]⟩⟩
theorem extract_at (s : ByteArray) (l : List UInt8) (hs : s.data.toList = l) (p q : Nat) (h : p ≤ q) : (s.extract p q).data.toList = (l.drop p).take (q - p) := by
  obtain ⟨n, rfl⟩ : ∃ n, q = p + n := ⟨q - p, by omega⟩
  rw [extract_take s l hs, show p + n - p = n from by omega]
theorem places_facts (l : List UInt8) : (∃ e, scanAll l = ([], some e)) ∨ (l.length ≤ 20000 ∧ ∃ T, scanAll l = (T ++ [endT l], none) ∧ Chain l 0 T ∧ ∀ t ∈ T, Good t) := by
  by_cases hb : 20000 < l.length
  · exact .inl ⟨(30, 0), by unfold scanAll; rw [if_pos hb]⟩
  · have e : scanAll l = match (scanL 0 false 0 l).2 with | some e => ([], some e) | none => ((scanL 0 false 0 l).1 ++ [endT l], none) := by unfold scanAll; rw [if_neg hb]; rfl
    cases h2 : (scanL 0 false 0 l).2 with
    | some x => exact .inl ⟨x, by rw [e, h2]⟩
    | none =>
      refine .inr ⟨by omega, (scanL 0 false 0 l).1, by rw [e, h2], ?_⟩
      exact scan_chain l _ 0 0 false _ rfl (Nat.zero_le _) (Nat.le_refl _) rfl (by rw [List.drop_zero]; exact Prod.ext rfl h2)
theorem places_again (T : List Tok) (hg : ∀ t ∈ T, Good t) (hl : (apartL T ++ [32]).length ≤ 20000) : ∃ T', scanAll (apartL T ++ [32]) = (T' ++ [endT (apartL T ++ [32])], none) ∧ T'.length = T.length ∧ ∀ i (h : i < T.length) (h' : i < T'.length), alike T'[i] T[i] := by
  obtain ⟨T', e1, e2, e3⟩ := scan_apart [32] T 0 hg
  have e32 : ∀ off, scanL off false 0 [32] = ([], none) := by
    intro off
    simp only [scanL, Nat.lt_irrefl, if_false, Bool.false_eq_true]
    rw [if_neg (by decide), if_pos (by decide)]
  rw [e32, List.append_nil] at e1
  refine ⟨T', ?_, e2, e3⟩
  unfold scanAll
  rw [if_neg (by omega), e1]
  rfl

set_option maxRecDepth 100000 in
set_option maxHeartbeats 4000000 in
theorem places_law (w : World) (s : ByteArray) (h63 : s.size ≤ 9223372036854775807) : Calls Try.prog 6 #[.string s] w fun e w' => e = .returned (.bool true) ∧ Below w.heap.size w w' := by
  obtain ⟨l, hl⟩ : ∃ l, s.data.toList = l := ⟨_, rfl⟩
  have hsl : s.size = l.length := by rw [← hl, Lib.size_eq]
  have HL := Lib.hid hl; have HSL := Lib.hid hsl; have H63 := Lib.hid h63
  have HF := Lib.hid (places_facts l)
  clear hl hsl
  go_enter Try.func6, Try.ntmps6
  go_wp2_with fail
  refine (awake_any _).mono ?_
  rintro e w1 ⟨rfl, hs1⟩
  have HS1 := Lib.hid hs1
  clear hs1
  go_wp2_with fail
  refine (scan_any _ s l HL.out H63.out).mono ?_
  rintro e w2 ⟨v2, e2, rfl, hs2, ho2, he2, _⟩
  have HS2 := Lib.hid (HS1.out.trans hs2 (fun _ h => h.elim))
  clear hs2
  rcases HF.out with ⟨x, hx⟩ | ⟨hlen, T, hT, hch, hgood⟩
  · rw [hx] at ho2 he2
    obtain ⟨g, rfl, _⟩ := he2
    obtain ⟨a2, c2, rfl, _, _⟩ := own_shape ho2
    clear ho2 hx
    go_wp2_with fail
    go_ret
    exact ⟨rfl, HS2.out.below (Nat.le_refl _) (fun _ h => h.elim)⟩
  · rw [hT] at ho2 he2
    obtain rfl : e2 = .nilIface := he2
    have HT2 := Lib.hid (TRd.of_own ho2)
    obtain ⟨a2, c2, rfl, _, _⟩ := own_shape ho2
    obtain ⟨n, hn⟩ : ∃ n, n = (T ++ [endT l]).length := ⟨_, rfl⟩
    have hnI : (n : Int) = (T.length : Int) + 1 := by rw [hn]; simp
    have HNn := Lib.hid hn
    have hnT : Hid (n = T.length + 1) := by unfold Hid; omega
    rw [← hn] at HT2 ⊢
    have hsz2 : s.size ≤ 20000 := by have := HSL.out; omega
    have HCh := Lib.hid hch; have HG := Lib.hid hgood
    have hTl : T.length ≤ 20001 := by
      have := scanAll_le3 l
      rw [hT] at this
      simp at this; omega
    clear ho2 hT hch hgood hn hlen
    go_wp2_with fail
    go_loopw [6, 7, 8] (fun p q i wr => ∃ (k at_ : Nat) (S : ByteArray), k ≤ n ∧ i = .int .i64 k ∧ p = .int .i64 at_ ∧ q = .string S ∧ at_ ≤ s.size ∧ S.size ≤ 2 * at_ + k ∧ Hid (Same w2 wr ∧ ((k ≤ T.length ∧ Chain l at_ (T.drop k) ∧ S.data.toList = apartL (T.take k)) ∨ (k = n ∧ at_ = s.size ∧ S.data.toList = apartL T ++ [32])))) (fun _ _ i _ => n - (intOf i).toNat)
    case atStart => exact ⟨0, 0, ⟨#[]⟩, Nat.zero_le _, rfl, rfl, rfl, Nat.zero_le _, by decide, Turned.refl _ _, .inl ⟨Nat.zero_le _, HCh.out, rfl⟩⟩
    case round =>
      obtain ⟨k, at_, S, hk, rfl, rfl, rfl, hat, hS, HV⟩ := hrel
      have hkw : IntKind.i64.wrap ((k : Int) + 1) = (k : Int) + 1 := wrap_small _ (by omega) (by omega)
      by_cases hlt : k < n
      · obtain ⟨hkT, hch, hap⟩ : k ≤ T.length ∧ Chain l at_ (T.drop k) ∧ S.data.toList = apartL (T.take k) := by
          rcases HV.out.2 with h | h
          · exact h
          · exfalso; omega
        obtain ⟨A2, ca2, ea, hA⟩ := HT2.out.same HV.out.1
        have hl2 : (T ++ [endT l]).length = n := HNn.out.symm
        rw [hl2] at ea
        injection ea with e1 _ e2
        subst e1; subst e2
        obtain ⟨g, rfl, hc⟩ := hA (by simp)
        obtain ⟨d0, d1, d2⟩ := hc k (by simp; have := hnT.out; omega)
        have hkI : (k : Int) < n := by omega
        have HCh2 := Lib.hid hch; have HAp := Lib.hid hap
        by_cases hkl : k < T.length
        · have hget : (T ++ [endT l])[k]'(by simp; omega) = T[k] := List.getElem_append_left hkl
          rw [hget] at d0 d1 d2
          have hdk : T.drop k = T[k] :: T.drop (k + 1) := List.drop_eq_getElem_cons hkl
          rw [hdk] at hch
          obtain ⟨c1, c2', c3, c4, ⟨cc, c5⟩, c6⟩ := hch
          have HTk : Hid (T.take (k + 1) = T.take k ++ [T[k]]) := List.take_succ_eq_append_getElem hkl
          obtain ⟨y, hy⟩ : ∃ y, y = T[k] := ⟨_, rfl⟩
          rw [← hy] at d0 d1 d2 c1 c2' c3 c4 c5 c6 HTk
          have HC4 := Lib.hid c4; have HC5 := Lib.hid c5; have HC6 := Lib.hid c6
          have hext : s.extract y.place (y.place + y.text.size) = y.text := by rw [extract_take s l HL.out]; exact c4.symm
          have hsl := HSL.out
          have c3' : y.place + y.text.size ≤ s.size := by omega
          have g1 : ¬ (y.place : Int) < at_ := by omega
          have g2 : ¬ (s.size : Int) < (y.place : Int) + y.text.size := by omega
          have g2' : (y.place : Int) + y.text.size ≤ s.size := by omega
          have g3 : ((k : Int) == (n : Int) - 1) = false := by rw [beq_eq_false_iff_ne]; omega
          have g4 : IntKind.i64.wrap ((y.place : Int) + y.text.size) = (y.place : Int) + y.text.size := wrap_small _ (by omega) (by omega)
          have g5 : IntKind.i64.wrap ((n : Int) - 1) = (n : Int) - 1 := wrap_small _ (by omega) (by omega)
          have g6 : (at_ : Int) ≤ y.place := by omega
          have hsl1 : ∀ W, (Instr.slice 9 (.string s) (some (.int .i64 (y.place : Int))) (some (.int .i64 ((y.place : Int) + y.text.size))) none).run Try.prog W = .ok (.string y.text) W := by
            intro W
            rw [run_slice_string W 9 s .i64 .i64 _ _ Try.underlying9 (by omega) (by omega) (by omega)]
            rw [show ((y.place : Int) + y.text.size).toNat = y.place + y.text.size from by omega, Int.toNat_natCast, hext]
          have hsl2 : ∀ W, (Instr.slice 9 (.string s) (some (.int .i64 (at_ : Int))) (some (.int .i64 (y.place : Int))) none).run Try.prog W = .ok (.string (s.extract at_ y.place)) W := by
            intro W
            rw [run_slice_string W 9 s .i64 .i64 _ _ Try.underlying9 (by omega) (by omega) (by omega)]
            rw [Int.toNat_natCast, Int.toNat_natCast]
          have g7 : ((k : Int) == (T.length : Int)) = false := by rw [beq_eq_false_iff_ne]; omega
          have g8 : ¬ y.place < at_ := by omega
          have g9 : IntKind.i64.wrap (T.length : Int) = (T.length : Int) := wrap_small _ (by omega) (by omega)
          have hne : y.text.toList.isEmpty = false := by
            rw [Lib.toList_data]
            cases hh : y.text.data.toList with
            | nil => rw [Lib.size_eq, hh] at c2'; exact absurd c2' (by decide)
            | cons _ _ => rfl
          clear hc hA hget hy hdk c4 c5 c6 hap hsl
          go_wp2_with fail
          go_quiet (fail)
          go_wp2_with fail
          refine (silent_any _ _ (by rw [extract_at s l HL.out at_ y.place c1]) cc HC5.out (by rw [ByteArray.size_extract]; omega) _).mono ?_
          rintro e w5 ⟨rfl, hs5⟩
          have HS5 := Lib.hid ((((Turned.refl (fun _ => False) wr).alloc (Obj.cells #[Value.int IntKind.i64 ↑y.kind, Value.int IntKind.i64 ↑y.place, Value.string y.text] 40)).drewN _).trans hs5 (fun _ h => h.elim))
          have hb5 : Blk w5 wr.heap.size 40 #[Value.int IntKind.i64 ↑y.kind, Value.int IntKind.i64 ↑y.place, Value.string y.text] := ((Blk.new wr 40 _).drewN _).turned hs5 (fun h => h)
          have b1 := hb5.cell 1
          have b2 := hb5.cell 2
          simp at b1 b2
          clear hs5 hb5
          have HN : Hid ((S ++ y.text ++ ⟨#[32]⟩).size ≤ 2 * (y.place + y.text.size) + (k + 1) ∧ (S ++ y.text ++ ⟨#[32]⟩).data.toList = apartL (T.take (k + 1))) := by
            refine ⟨?_, ?_⟩
            · rw [ByteArray.size_append, ByteArray.size_append]
              have : (⟨#[32]⟩ : ByteArray).size = 1 := rfl
              omega
            · rw [ByteArray.data_append, ByteArray.data_append, Array.toList_append, Array.toList_append, HAp.out, HTk.out]
              simp [apartL]
          go_wp2_with fail
          exact ⟨⟨k + 1, y.place + y.text.size, _, by omega, by go_num, by go_num, rfl, c3', HN.out.1, HV.out.1.trans HS5.out (fun _ h => h.elim), .inl ⟨by omega, HC6.out, HN.out.2⟩⟩, by simp [intOf]; omega⟩
        · have hkE : k = T.length := by omega
          have hget : (T ++ [endT l])[k]'(by simp; omega) = endT l := by
            subst hkE
            simp
          rw [hget] at d0 d1 d2
          have hdk : T.drop k = [] := List.drop_of_length_le (by omega)
          rw [hdk] at hch
          obtain ⟨_, cc, c5⟩ := hch
          have HC5 := Lib.hid c5
          have hsl := HSL.out
          have e1 : (endT l).place = s.size := hsl.symm
          have e0 : (endT l).kind = 13 := rfl
          have e2 : (endT l).text = ⟨#[]⟩ := rfl
          rw [e0] at d0
          rw [e1] at d1
          rw [e2] at d2
          have hTk : T.take k = T := List.take_of_length_le (by omega)
          rw [hTk] at HAp
          have HSLn := Lib.hid hsl
          have HKE := Lib.hid hkE
          have hsl1 : ∀ W, (Instr.slice 9 (.string s) (some (.int .i64 (s.size : Int))) (some (.int .i64 (s.size : Int))) none).run Try.prog W = .ok (.string ⟨#[]⟩) W := by
            intro W
            rw [run_slice_string W 9 s .i64 .i64 _ _ Try.underlying9 (by omega) (by omega) (by omega)]
            rw [Int.toNat_natCast]
            congr 2
            apply ByteArray.ext
            apply Array.toList_inj.1
            have := extract_at s l HL.out s.size s.size (Nat.le_refl _)
            rw [this, Nat.sub_self, List.take_zero]
          have hsl2 : ∀ W, (Instr.slice 9 (.string s) (some (.int .i64 (at_ : Int))) (some (.int .i64 (s.size : Int))) none).run Try.prog W = .ok (.string (s.extract at_ s.size)) W := by
            intro W
            rw [run_slice_string W 9 s .i64 .i64 _ _ Try.underlying9 (by omega) (by omega) (by omega)]
            rw [Int.toNat_natCast, Int.toNat_natCast]
          have g1 : ¬ (s.size : Int) < at_ := by omega
          have g8 : ¬ s.size < at_ := by omega
          have g7 : ((k : Int) == (T.length : Int)) = true := by rw [beq_iff_eq]; omega
          have g9 : IntKind.i64.wrap (T.length : Int) = (T.length : Int) := wrap_small _ (by omega) (by omega)
          have g10 : IntKind.i64.wrap (s.size : Int) = (s.size : Int) := wrap_small _ (by omega) (by omega)
          clear hc hA hget hdk c5 hap e0 e1 e2 hTk hsl hkE
          go_wp2_with fail
          go_quiet (fail)
          go_wp2_with fail
          refine (silent_any _ _ (by rw [extract_at s l HL.out at_ s.size hat, List.take_of_length_le (by rw [List.length_drop]; have := HSLn.out; omega)]) cc HC5.out (by rw [ByteArray.size_extract]; omega) _).mono ?_
          rintro e w5 ⟨rfl, hs5⟩
          have HS5 := Lib.hid ((((Turned.refl (fun _ => False) wr).alloc (Obj.cells #[Value.int IntKind.i64 13, Value.int IntKind.i64 ↑s.size, Value.string ⟨#[]⟩] 40)).drewN _).trans hs5 (fun _ h => h.elim))
          have hb5 : Blk w5 wr.heap.size 40 #[Value.int IntKind.i64 13, Value.int IntKind.i64 ↑s.size, Value.string ⟨#[]⟩] := ((Blk.new wr 40 _).drewN _).turned hs5 (fun h => h)
          have b1 := hb5.cell 1
          have b2 := hb5.cell 2
          simp at b1 b2
          have HN : Hid ((S ++ ⟨#[]⟩ ++ ⟨#[32]⟩).size ≤ 2 * s.size + (k + 1) ∧ (S ++ ⟨#[]⟩ ++ ⟨#[32]⟩).data.toList = apartL T ++ [32]) := by
            refine ⟨?_, ?_⟩
            · rw [ByteArray.size_append, ByteArray.size_append]
              have h1 : (⟨#[32]⟩ : ByteArray).size = 1 := rfl
              have h2 : (⟨#[]⟩ : ByteArray).size = 0 := rfl
              omega
            · rw [ByteArray.data_append, ByteArray.data_append, Array.toList_append, Array.toList_append, HAp.out]
              simp
          clear hs5 hb5
          go_wp2_with fail
          exact ⟨⟨k + 1, s.size, _, by omega, by go_num, rfl, rfl, Nat.le_refl _, HN.out.1, HV.out.1.trans HS5.out (fun _ h => h.elim), .inr ⟨by have := hnT.out; have := HKE.out; omega, rfl, HN.out.2⟩⟩, by simp [intOf]; omega⟩
      · obtain ⟨hkn, hatE, hap⟩ : k = n ∧ at_ = s.size ∧ S.data.toList = apartL T ++ [32] := by
          rcases HV.out.2 with h | h
          · exfalso; have := hnT.out; omega
          · exact h
        subst hkn
        subst hatE
        obtain ⟨A2, ca2, ea, hA⟩ := HT2.out.same HV.out.1
        have hl2 : (T ++ [endT l]).length = k := HNn.out.symm
        rw [hl2] at ea
        injection ea with e1 _ e2
        subst e1; subst e2
        obtain ⟨g, rfl, hc⟩ := hA (by simp)
        obtain ⟨d0, d1, d2⟩ := hc T.length (by simp)
        have hget : (T ++ [endT l])[T.length]'(by simp) = endT l := by simp
        rw [hget] at d0
        have e0 : (endT l).kind = 13 := rfl
        rw [e0] at d0
        have g9 : IntKind.i64.wrap (T.length : Int) = (T.length : Int) := wrap_small _ (by omega) (by omega)
        have g11 : (0 : Int) ≤ (T.length : Int) := by omega
        have g12 : (T.length : Int) < (T.length : Int) + 1 := by omega
        have g13 : ((T.length : Int) + 1 == 0) = false := by rw [beq_eq_false_iff_ne]; omega
        have HAp := Lib.hid hap
        clear hA hc d1 d2 hget e0 hap
        by_cases hbig : (20000 : Int) < S.size
        · go_wp2_with fail
          go_ret
          exact ⟨rfl, (HS2.out.trans HV.out.1 (fun _ h => h.elim)).below (Nat.le_refl _) (fun _ h => h.elim)⟩
        · have HAg := Lib.hid (places_again T HG.out (by rw [← HAp.out, ← Lib.size_eq]; omega))
          have hSs : Hid (S.size ≤ 20000) := by unfold Hid; omega
          go_wp2_with fail
          refine (scan_any _ S _ HAp.out (by have := hSs.out; omega)).mono ?_
          rintro e w6 ⟨v6, e6, rfl, hs6, ho6, he6, _⟩
          obtain ⟨T', hT', hTl', hal⟩ := HAg.out
          rw [hT'] at ho6 he6
          obtain rfl : e6 = .nilIface := he6
          have HT6 := Lib.hid (TRd.of_own ho6)
          obtain ⟨a6, c6, rfl, _, _⟩ := own_shape ho6
          have hm : (T' ++ [endT (apartL T ++ [32])]).length = k := by simp; have := hnT.out; omega
          have hm2 : (T ++ [endT l]).length = k := HNn.out.symm
          have HM := Lib.hid hm; have HM2 := Lib.hid hm2
          have HAL : Hid (∀ i (h1 : i < (T' ++ [endT (apartL T ++ [32])]).length) (h2 : i < (T ++ [endT l]).length), alike (T' ++ [endT (apartL T ++ [32])])[i] (T ++ [endT l])[i]) := by
            intro i h1 h2
            by_cases hi : i < T.length
            · rw [List.getElem_append_left hi, List.getElem_append_left (by omega)]
              exact hal i hi (by omega)
            · have hiT : i = T.length := by simp at h2; omega
              subst hiT
              rw [List.getElem_append_right (Nat.le_refl _), List.getElem_append_right (by omega)]
              simp only [hTl', Nat.sub_self, List.getElem_cons_zero]
              exact ⟨rfl, rfl⟩
          rw [hm] at HT6
          rw [hm]
          have HT26 := Lib.hid (HT2.out.same (HV.out.1.trans hs6 (fun _ h => h.elim)))
          have HS6 := Lib.hid ((HS2.out.trans HV.out.1 (fun _ h => h.elim)).trans hs6 (fun _ h => h.elim))
          clear hs6 ho6 hT' hTl' hal hm hm2 d0
          go_wp2_with fail
          go_loopw [13] (fun i w9 => ∃ j : Nat, j ≤ k ∧ i = .int .i64 j ∧ Hid (Same w6 w9)) (fun i _ => k - (intOf i).toNat)
          case atStart => exact ⟨0, Nat.zero_le _, rfl, Turned.refl _ _⟩
          case round =>
            obtain ⟨j, hj, rfl, HU⟩ := hrel
            by_cases hlt2 : j < k
            · have hjI : (j : Int) < k := by omega
              have hjI2 : (j : Int) < (T.length : Int) + 1 := by omega
              have hj0 : (0 : Int) ≤ j := by omega
              obtain ⟨A3, ca3, ea, hA⟩ := HT26.out.same HU.out
              rw [HM2.out] at ea
              injection ea with e1 _ e2
              subst e1; subst e2
              obtain ⟨g2, eg, hc⟩ := hA (by simp)
              obtain rfl : g = g2 := by simpa using eg
              obtain ⟨A4, ca4, eb, hB⟩ := HT6.out.same HU.out
              rw [HM.out] at eb
              injection eb with e1 _ e2
              subst e1; subst e2
              obtain ⟨g6, rfl, hc6⟩ := hB (by simp)
              obtain ⟨d0, d1, d2⟩ := hc j (by rw [HM2.out]; exact hlt2)
              obtain ⟨b0, b1, b2⟩ := hc6 j (by rw [HM.out]; exact hlt2)
              have hli := HAL.out j (by rw [HM.out]; exact hlt2) (by rw [HM2.out]; exact hlt2)
              rw [hli.1] at b0
              rw [hli.2] at b2
              obtain ⟨y, hy⟩ : ∃ y, y = (T ++ [endT l])[j]'(by rw [HM2.out]; exact hlt2) := ⟨_, rfl⟩
              rw [← hy] at d0 d1 d2 b0 b2
              clear hc hc6 hA hB hli hy d1 b1 eg
              go_wp2_with fail
              go_quiet (fail)
              go_wp2_with fail
              exact ⟨⟨j + 1, by omega, by go_num, HU.out.drewN _⟩, by simp [intOf]; omega⟩
            · have hjI : ¬ (j : Int) < k := by omega
              have hjI2 : ¬ (j : Int) < (T.length : Int) + 1 := by omega
              go_wp2_with fail
              go_ret
              exact ⟨rfl, (HS6.out.trans HU.out (fun _ h => h.elim)).below (Nat.le_refl _) (fun _ h => h.elim)⟩
end Go.Proofs.Ytoncebnbdjpclaa
