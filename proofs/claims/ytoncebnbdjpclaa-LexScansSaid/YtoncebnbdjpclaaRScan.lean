/-
  The walk of the reference's Scan.
-/
import Derived.Test.YtoncebnbdjpclaaRef
namespace Go.Proofs.Ytoncebnbdjpclaa
open Go.RowKit

theorem WRow.mk1 (w : World) (c p : Nat) (cap : Nat) : WRow (w.alloc (.cells #[.int .i64 c, .int .i64 p] 37)) (.slice (some ⟨w.heap.size, 0, none⟩) 1 cap) (some (c, p)) := ⟨_, _, rfl, Blk.new w 37 _⟩
structure RInv (w wr : World) (l : List UInt8) (pos : Nat) (o : Value) (m : Nat) (acc : List Tok) : Prop where
  same : Same w wr
  own : wr.ownsRow 0 40 3 o acc.length (tall acc)
  new : ∀ k, o.ownBlock = some k → w.heap.size ≤ k
  eq : scanL 0 false 0 l = (acc ++ (scanL pos false 0 (l.drop pos)).1, (scanL pos false 0 (l.drop pos)).2)
  le : acc.length ≤ pos
  len : m = acc.length
theorem RInv.next {w wr w' : World} {l : List UInt8} {pos m : Nat} {o : Value} {acc : List Tok} (h : RInv w wr l pos o m acc) (ht : Same wr w') (q : Nat) (hq : pos ≤ q) (he : scanL pos false 0 (l.drop pos) = scanL q false 0 (l.drop q)) : RInv w w' l q o m acc :=
  ⟨h.same.trans ht (fun _ h => h.elim), World.ownsRow.turned h.own ht (fun _ _ h => h), h.new, by rw [h.eq, he], by have := h.le; omega, h.len⟩

theorem RInv.token {w w5 w' : World} {l : List UInt8} {p m0 : Nat} {v v' : Value} {acc : List Tok} {t : Tok} {o : Obj} (hsame : Same w w5) (_ho : w5.ownsRow 0 40 3 v m0 (tall acc)) (hnew : ∀ k, v.ownBlock = some k → w.heap.size ≤ k)
    (hg : (w5.alloc o).grownBy w' v.ownBlock) (ho' : w'.ownsRow 0 40 3 v' (acc.length + 1) (tall acc ++ tcells t)) (hat : v'.ownBlock = v.ownBlock ∨ v'.ownBlock = some (w5.heap.size + 1))
    (eq : scanL 0 false 0 l = ((acc ++ [t]) ++ (scanL p false 0 (l.drop p)).1, (scanL p false 0 (l.drop p)).2)) (le : acc.length + 1 ≤ p) :
    RInv w w' l p v' (acc.length + 1) (acc ++ [t]) := by
  refine ⟨(hsame.alloc o).grown hg (fun k hk => .inr (hnew k hk)), by rw [List.length_append, tall_snoc]; exact ho', fun k hk => ?_, eq, by rw [List.length_append]; exact le, by rw [List.length_append]; rfl⟩
  rcases hat with e | e
  · exact hnew k (by rw [← e]; exact hk)
  · rw [e] at hk
    obtain rfl : w5.heap.size + 1 = k := by simpa using hk
    have := hsame.size
    omega

set_option maxRecDepth 100000 in
set_option maxHeartbeats 4000000 in
theorem rscan_any (w : World) (s : ByteArray) (l : List UInt8) (hs : s.data.toList = l) :
    Calls Try.prog 13 #[.string s] w fun e w' => ∃ v wv, e = .returned (.tuple #[v, wv]) ∧ Same w w' ∧ w'.ownsRow 0 40 3 v (scanAll l).1.length (tall (scanAll l).1) ∧ WRow w' wv (scanAll l).2 ∧ ∀ k, v.ownBlock = some k → w.heap.size ≤ k := by
  have hsz : s.size = l.length := by rw [← hs, Lib.size_eq]
  have HSZ := Lib.hid hsz
  have HS := Lib.hid hs
  by_cases hbig : (20000 : Int) < s.size
  · have hE : scanAll l = ([], some (30, 0)) := by unfold scanAll; rw [if_pos (by omega)]
    have HE := Lib.hid hE
    clear hs hsz hE
    go_enter Try.func13, Try.ntmps13
    go_wp2
    go_ret2
    rw [HE.out]
    exact ⟨_, _, rfl, (Turned.refl _ _).alloc _, World.ownsRow_nil _ _ _ _, WRow.mk1 w 30 0 1, fun k hk => by simp [Value.ownBlock] at hk⟩
  · have hsmall : s.size ≤ 20000 := by omega
    have hEall : Hid (scanAll l = match (scanL 0 false 0 l).2 with
        | some e => ([], some e)
        | none => ((scanL 0 false 0 l).1 ++ [⟨13, l.length, ⟨#[]⟩⟩], none)) := by unfold Hid scanAll; rw [if_neg (by omega)]; rfl
    clear hs hsz
    obtain ⟨i0, hi0, hz0, hz1, hz2⟩ := info_parts info40
    have HI := Lib.hid (And.intro hi0 (And.intro hz0 (And.intro hz1 hz2)))
    clear hi0 hz0 hz1 hz2
    go_enter Try.func13, Try.ntmps13
    go_wp2_with fail
    go_loopw [4, 5] (fun o n wr => ∃ (pos m : Nat) (a : Option Addr) (cap : Nat), o = .slice a m cap ∧ n = .int .i64 pos ∧ pos ≤ s.size ∧ Hid (∃ acc, RInv w wr l pos (.slice a m cap) m acc)) (fun _ n _ => s.size - (intOf n).toNat)
    case atStart => exact ⟨0, 0, none, 0, rfl, rfl, by omega, [], Turned.refl _ _, World.ownsRow_nil _ _ _ _, fun k hk => by simp [Value.ownBlock] at hk, rfl, Nat.le_refl _, rfl⟩
    case round =>
      obtain ⟨pos, m, a, cap, rfl, rfl, hpos, HV⟩ := hrel
      obtain ⟨acc, hV⟩ := HV.out
      have HV2 := Lib.hid hV
      have hml := hV.len
      subst hml
      have hle := hV.le
      clear HV hV
      by_cases hp : pos < s.size
      · obtain ⟨hpl, hbyte⟩ := byte_at HS.out pos hp
        have hd : l.drop pos = l[pos] :: l.drop (pos + 1) := List.drop_eq_getElem_cons hpl
        obtain ⟨b, hb⟩ : ∃ b, b = l[pos] := ⟨_, rfl⟩
        rw [← hb] at hbyte hd
        have HD := Lib.hid hd
        have hpI : (pos : Int) < s.size := by omega
        have hw1 : IntKind.i64.wrap ((pos : Int) + 1) = (pos : Int) + 1 := wrap_small _ (by omega) (by omega)
        have HO : Hid (wr.ownsRow 0 40 3 (.slice a acc.length cap) acc.length (tall acc)) := HV2.out.own
        have HSc : Hid (scanL pos false 0 (l.drop pos) = if b.toNat = 37 then scanL (pos + 1) true 0 (l.drop (pos + 1))
            else if blankN b.toNat = true then scanL (pos + 1) false 0 (l.drop (pos + 1))
            else if kindAt (b :: l.drop (pos + 1)) = 0 then ([], some (31, pos))
            else if wrongN (kindAt (b :: l.drop (pos + 1))) (lenAt (kindAt (b :: l.drop (pos + 1))) (b :: l.drop (pos + 1))) b.toNat ≠ 0 then ([], some (wrongN (kindAt (b :: l.drop (pos + 1))) (lenAt (kindAt (b :: l.drop (pos + 1))) (b :: l.drop (pos + 1))) b.toNat, pos))
            else (⟨kindAt (b :: l.drop (pos + 1)), pos, ⟨((b :: l.drop (pos + 1)).take (lenAt (kindAt (b :: l.drop (pos + 1))) (b :: l.drop (pos + 1)))).toArray⟩⟩ :: (scanL (pos + 1) false (lenAt (kindAt (b :: l.drop (pos + 1))) (b :: l.drop (pos + 1)) - 1) (l.drop (pos + 1))).1, (scanL (pos + 1) false (lenAt (kindAt (b :: l.drop (pos + 1))) (b :: l.drop (pos + 1)) - 1) (l.drop (pos + 1))).2)) := by
          unfold Hid
          rw [hd]
          simp only [scanL, Nat.lt_irrefl, if_false, Bool.false_eq_true]
        clear hd hb
        go_wp2_with fail
        refine (blank_any _ _).mono ?_
        rintro e wr ⟨rfl, rfl⟩
        cases hbl : blankN b.toNat
        · have HBL := Lib.hid hbl
          clear hbl
          by_cases h37 : b.toNat = 37
          · have h37I : (b.toNat : Int) = 37 := by omega
            have HC : Hid (scanL pos false 0 (l.drop pos) = scanL (pos + 1) true 0 (l.drop (pos + 1))) := by unfold Hid; rw [HSc.out, if_pos h37]
            have H37 := Lib.hid h37
            clear h37
            go_wp2_with fail
            go_loopw [5] (fun n w2 => ∃ p : Nat, pos ≤ p ∧ p ≤ s.size ∧ n = .int .i64 p ∧ w2 = wr ∧ Hid (p = pos ∨ scanL pos false 0 (l.drop pos) = scanL p true 0 (l.drop p))) (fun n _ => s.size - (intOf n).toNat)
            case atStart => exact ⟨pos, Nat.le_refl _, by omega, rfl, rfl, .inl rfl⟩
            case round =>
              obtain ⟨p, hp1, hp2, rfl, hw, HP⟩ := hrel
              subst hw
              have hpw : IntKind.i64.wrap ((p : Int) + 1) = (p : Int) + 1 := wrap_small _ (by omega) (by omega)
              by_cases hlt : p < s.size
              · obtain ⟨hpl2, hbyte2⟩ := byte_at HS.out p hlt
                have hd2 : l.drop p = l[p] :: l.drop (p + 1) := List.drop_eq_getElem_cons hpl2
                obtain ⟨x, hx⟩ : ∃ x, x = l[p] := ⟨_, rfl⟩
                rw [← hx] at hbyte2 hd2
                have hltI : (p : Int) < s.size := by omega
                have hix : ∀ W, (Instr.index 9 (.string s) (.int .i64 (p : Int))).run Try.prog W = .ok (.int .u8 x.toNat) W := by
                  intro W
                  rw [run_index_string W 9 s .i64 _ Try.underlying9, dif_pos (by omega)]
                  simp only [Int.toNat_natCast, hbyte2]
                have HX := Lib.hid hx
                have HD2 := Lib.hid hd2
                have hbx : Hid (p = pos → x = b) := fun h => by
                  subst h
                  have h1 := HD.out
                  rw [HD2.out] at h1
                  injection h1
                by_cases h10 : x.toNat = 10
                · have h10I : (x.toNat : Int) = 10 := by omega
                  have hne : p ≠ pos := fun h => by have h1 := hbx.out h; rw [h1] at h10; have := H37.out; omega
                  have HN : Hid (RInv w wr l p (.slice a acc.length cap) acc.length acc) := by
                    refine HV2.out.next (Turned.refl _ _) p hp1 ?_
                    have h1 : scanL pos false 0 (l.drop pos) = scanL p true 0 (l.drop p) := HP.out.resolve_left hne
                    rw [h1, hd2]
                    have e1 : (x != 10) = false := by simpa using UInt8.toNat_inj.1 (show x.toNat = (10 : UInt8).toNat from h10)
                    have e2 : blankN x.toNat = true := by rw [h10]; decide
                    simp only [scanL, Nat.lt_irrefl, if_false, if_true, Bool.false_eq_true]
                    rw [e1, if_neg (by omega), if_pos e2]
                  clear hd2 hx hbyte2
                  go_wp2_with fail
                  exact ⟨⟨p, _, a, cap, rfl, rfl, hp2, acc, HN.out⟩, by simp [intOf]; omega⟩
                · have h10I : ¬ (x.toNat : Int) = 10 := by omega
                  have HN : Hid (scanL pos false 0 (l.drop pos) = scanL (p + 1) true 0 (l.drop (p + 1))) := by
                    rcases HP.out with h1 | h1
                    · rw [h1]; exact HC.out
                    · unfold Hid
                      rw [h1, hd2]
                      have e1 : (x != 10) = true := by
                        have : x ≠ 10 := fun h => h10 (by rw [h]; rfl)
                        simpa using this
                      simp only [scanL, Nat.lt_irrefl, if_false, if_true]
                      rw [e1]
                  clear hd2 hx hbyte2
                  go_wp2_with fail
                  exact ⟨⟨p + 1, by omega, by omega, by go_num, trivial, .inr HN.out⟩, by simp [intOf]; omega⟩
              · have hltI : ¬ (p : Int) < s.size := by omega
                have HN : Hid (RInv w wr l p (.slice a acc.length cap) acc.length acc) := by
                  refine HV2.out.next (Turned.refl _ _) p hp1 ?_
                  have h1 : scanL pos false 0 (l.drop pos) = scanL p true 0 (l.drop p) := HP.out.resolve_left (by omega)
                  rw [h1, List.drop_of_length_le (by have : s.size = l.length := HSZ.out; omega)]
                  rfl
                go_wp2_with fail
                exact ⟨⟨p, _, a, cap, rfl, rfl, hp2, acc, HN.out⟩, by simp [intOf]; omega⟩
          · have h37I : ¬ (b.toNat : Int) = 37 := by omega
            have H37 := Lib.hid h37
            clear h37
            obtain ⟨K, hK⟩ : ∃ K, K = kindAt (b :: l.drop (pos + 1)) := ⟨_, rfl⟩
            have HKK := Lib.hid hK
            clear hK
            go_wp2_with fail
            refine (rbegins_any s l HS.out pos hp hsmall _).mono ?_
            rintro e w3 ⟨rfl, hs3⟩
            rw [HD.out, ← HKK.out]
            have HS3 := Lib.hid hs3
            clear hs3
            by_cases hK0 : K = 0
            · subst hK0
              have hE : Hid (scanAll l = ([], some (31, pos))) := by
                have h0 := HV2.out.eq
                rw [HSc.out, if_neg H37.out, if_neg (by rw [HBL.out]; decide), if_pos HKK.out.symm] at h0
                unfold Hid; rw [hEall.out, h0]
              go_wp2_with fail
              go_ret2
              rw [hE.out]
              exact ⟨_, _, rfl, (HV2.out.same.trans HS3.out (fun _ h => h.elim)).alloc _, World.ownsRow_nil _ _ _ _, WRow.mk1 w3 31 pos 1, fun k hk => by simp [Value.ownBlock] at hk⟩
            · have hK0B : ((K : Int) == 0) = false := by rw [beq_eq_false_iff_ne]; omega
              have HLN := lenAt_in (b := b) (r := l.drop (pos + 1)) (by rw [← HKK.out]; exact hK0)
              have hKK := kindAt_pos (b := b) (r := l.drop (pos + 1)) (by rw [← HKK.out]; exact hK0)
              rw [← HKK.out] at HLN hKK
              obtain ⟨n, hn⟩ : ∃ n, n = lenAt K (b :: l.drop (pos + 1)) := ⟨_, rfl⟩
              rw [← hn] at HLN
              have HN := Lib.hid hn
              obtain ⟨hn1, hn2, _⟩ := HLN
              have hpn2 : pos + n ≤ s.size := by
                have : s.size = l.length := HSZ.out
                rw [List.length_drop] at hn2; omega
              have hpn2I : (pos : Int) + n ≤ s.size := by omega
              have hw2 : IntKind.i64.wrap ((pos : Int) + n) = (pos : Int) + n := wrap_small _ (by omega) (by omega)
              obtain ⟨C, hC⟩ : ∃ C, C = wrongN K n b.toNat := ⟨_, rfl⟩
              have HC := Lib.hid hC
              have hk13 := hKK.2.1
              have HKb := Lib.hid hKK.1
              clear hn hn2 hKK
              go_wp2_with fail
              refine (rlength_any s l HS.out pos hp hsmall K _).mono ?_
              rintro e w4 ⟨rfl, hs4⟩
              rw [HD.out, ← HN.out]
              have HS4 := Lib.hid (HS3.out.trans hs4 (fun _ h => h.elim))
              have HErr : Hid (C ≠ 0 → scanAll l = ([], some (C, pos))) := fun h => by
                have h0 := HV2.out.eq
                rw [HSc.out, if_neg H37.out, if_neg (by rw [HBL.out]; decide), if_neg (by rw [← HKK.out]; exact hK0), ← HKK.out, ← HN.out, ← HC.out, if_pos h] at h0
                rw [hEall.out, h0]
              clear hs4
              have HO4 := Lib.hid (World.ownsRow.turned HO.out HS4.out (fun _ _ h => h))
              have HEq : Hid (C = 0 → scanL 0 false 0 l = ((acc ++ [⟨K, pos, s.extract pos (pos + n)⟩]) ++ (scanL (pos + n) false 0 (l.drop (pos + n))).1, (scanL (pos + n) false 0 (l.drop (pos + n))).2)) := fun h => by
                have h0 := HV2.out.eq
                rw [HSc.out, if_neg H37.out, if_neg (by rw [HBL.out]; decide), if_neg (by rw [← HKK.out]; exact hK0), ← HKK.out, ← HN.out, ← HC.out, if_neg (fun h2 => h2 h)] at h0
                have hsk := scan_skip l false (n - 1) (pos + 1) 0 (by have : s.size = l.length := HSZ.out; omega)
                simp only [Nat.add_zero] at hsk
                rw [show pos + 1 + (n - 1) = pos + n from by omega] at hsk
                rw [h0, hsk, extract_take s l HS.out, HD.out, List.append_assoc]
                rfl
              clear hC
              rcases (by omega : (K = 1 ∨ K = 2) ∨ K = 3 ∨ (K ≠ 1 ∧ K ≠ 2 ∧ K ≠ 3)) with h12 | rfl | ⟨n1, n2, n3⟩
              · have e : C = if 12 < n then 32 else 0 := by rw [HC.out, wrongN, if_pos h12]
                by_cases c1 : 12 < n
                · rw [if_pos c1] at e
                  have hE := HErr.out (by omega)
                  rw [e] at hE
                  have c1I : (12 : Int) < n := by omega
                  clear e
                  rcases h12 with rfl | rfl
                  all_goals
                    go_wp2_with fail
                    go_ret2
                    rw [hE]
                    exact ⟨_, _, rfl, (HV2.out.same.trans HS4.out (fun _ h => h.elim)).alloc _, World.ownsRow_nil _ _ _ _, WRow.mk1 w4 32 pos 1, fun k hk => by simp [Value.ownBlock] at hk⟩
                · rw [if_neg c1] at e
                  have c1I : ¬ (12 : Int) < n := by omega
                  have hC0 : C = 0 := e
                  clear e
                  rcases h12 with rfl | rfl
                  all_goals
                    go_wp2_with (at_builtin; go_loud (refine wpList_append_src _ rfl _ _ 25 rfl 40 i0 _ 3 32 Try.underlying25 HI.out.1 HI.out.2.1 HI.out.2.2.1 HI.out.2.2.2 rfl (by omega) (.slice a acc.length cap) acc.length (tall acc) rfl (by exact HO4.out.alloc _) (some ⟨w4.heap.size, 0, none⟩) 1 1 [.int .i64 _, .int .i64 pos, .string (s.extract pos (pos + n))] rfl rfl (by exact src_new w4 [.int .i64 _, .int .i64 pos, .string (s.extract pos (pos + n))] 40) (by simp [Value.oneCell']) (by unfold maxLen; omega) (by omega) ?_))
                    intro a' c' w' ho' hg' hat'
                    have HH := Lib.hid (RInv.token (HV2.out.same.trans HS4.out (fun _ h => h.elim)) HO4.out HV2.out.new hg' ho' hat' (t := ⟨_, pos, s.extract pos (pos + n)⟩) (HEq.out hC0) (by omega))
                    clear ho' hg' hat'
                    go_wp2_with fail
                    exact ⟨⟨pos + n, _, a', c', rfl, by go_num, hpn2, _, HH.out⟩, by simp [intOf]; omega⟩
              · have e : C = if 9 < n ∨ (1 < n ∧ b.toNat = 48) then 33 else 0 := by rw [HC.out, wrongN, if_neg (by decide), if_pos rfl]
                by_cases c1 : 9 < n
                · rw [if_pos (.inl c1)] at e
                  have hE := HErr.out (by omega)
                  rw [e] at hE
                  have c1I : (9 : Int) < n := by omega
                  clear e
                  go_wp2_with fail
                  go_ret2
                  rw [hE]
                  exact ⟨_, _, rfl, (HV2.out.same.trans HS4.out (fun _ h => h.elim)).alloc _, World.ownsRow_nil _ _ _ _, WRow.mk1 w4 33 pos 1, fun k hk => by simp [Value.ownBlock] at hk⟩
                · have c1I : ¬ (9 : Int) < n := by omega
                  by_cases c2 : 1 < n
                  · have c2I : (1 : Int) < n := by omega
                    by_cases c3 : b.toNat = 48
                    · rw [if_pos (.inr ⟨c2, c3⟩)] at e
                      have hE := HErr.out (by omega)
                      rw [e] at hE
                      have c3I : (b.toNat : Int) = 48 := by omega
                      clear e
                      go_wp2_with fail
                      go_ret2
                      rw [hE]
                      exact ⟨_, _, rfl, (HV2.out.same.trans HS4.out (fun _ h => h.elim)).alloc _, World.ownsRow_nil _ _ _ _, WRow.mk1 w4 33 pos 1, fun k hk => by simp [Value.ownBlock] at hk⟩
                    · rw [if_neg (by omega)] at e
                      have c3I : ((b.toNat : Int) == 48) = false := by rw [beq_eq_false_iff_ne]; omega
                      have hC0 : C = 0 := e
                      clear e
                      go_wp2_with (at_builtin; go_loud (refine wpList_append_src _ rfl _ _ 25 rfl 40 i0 _ 3 32 Try.underlying25 HI.out.1 HI.out.2.1 HI.out.2.2.1 HI.out.2.2.2 rfl (by omega) (.slice a acc.length cap) acc.length (tall acc) rfl (by exact HO4.out.alloc _) (some ⟨w4.heap.size, 0, none⟩) 1 1 [.int .i64 _, .int .i64 pos, .string (s.extract pos (pos + n))] rfl rfl (by exact src_new w4 [.int .i64 _, .int .i64 pos, .string (s.extract pos (pos + n))] 40) (by simp [Value.oneCell']) (by unfold maxLen; omega) (by omega) ?_))
                      intro a' c' w' ho' hg' hat'
                      have HH := Lib.hid (RInv.token (HV2.out.same.trans HS4.out (fun _ h => h.elim)) HO4.out HV2.out.new hg' ho' hat' (t := ⟨_, pos, s.extract pos (pos + n)⟩) (HEq.out hC0) (by omega))
                      clear ho' hg' hat'
                      go_wp2_with fail
                      exact ⟨⟨pos + n, _, a', c', rfl, by go_num, hpn2, _, HH.out⟩, by simp [intOf]; omega⟩
                  · rw [if_neg (by omega)] at e
                    have c2I : ¬ (1 : Int) < n := by omega
                    have hC0 : C = 0 := e
                    clear e
                    go_wp2_with (at_builtin; go_loud (refine wpList_append_src _ rfl _ _ 25 rfl 40 i0 _ 3 32 Try.underlying25 HI.out.1 HI.out.2.1 HI.out.2.2.1 HI.out.2.2.2 rfl (by omega) (.slice a acc.length cap) acc.length (tall acc) rfl (by exact HO4.out.alloc _) (some ⟨w4.heap.size, 0, none⟩) 1 1 [.int .i64 _, .int .i64 pos, .string (s.extract pos (pos + n))] rfl rfl (by exact src_new w4 [.int .i64 _, .int .i64 pos, .string (s.extract pos (pos + n))] 40) (by simp [Value.oneCell']) (by unfold maxLen; omega) (by omega) ?_))
                    intro a' c' w' ho' hg' hat'
                    have HH := Lib.hid (RInv.token (HV2.out.same.trans HS4.out (fun _ h => h.elim)) HO4.out HV2.out.new hg' ho' hat' (t := ⟨_, pos, s.extract pos (pos + n)⟩) (HEq.out hC0) (by omega))
                    clear ho' hg' hat'
                    go_wp2_with fail
                    exact ⟨⟨pos + n, _, a', c', rfl, by go_num, hpn2, _, HH.out⟩, by simp [intOf]; omega⟩
              · have e : C = 0 := by rw [HC.out, wrongN, if_neg (by omega), if_neg (by omega)]
                have m1 : ((K : Int) == 1) = false := by rw [beq_eq_false_iff_ne]; omega
                have m2 : ((K : Int) == 2) = false := by rw [beq_eq_false_iff_ne]; omega
                have m3 : ((K : Int) == 3) = false := by rw [beq_eq_false_iff_ne]; omega
                have hC0 : C = 0 := e
                clear e
                go_wp2_with (at_builtin; go_loud (refine wpList_append_src _ rfl _ _ 25 rfl 40 i0 _ 3 32 Try.underlying25 HI.out.1 HI.out.2.1 HI.out.2.2.1 HI.out.2.2.2 rfl (by omega) (.slice a acc.length cap) acc.length (tall acc) rfl (by exact HO4.out.alloc _) (some ⟨w4.heap.size, 0, none⟩) 1 1 [.int .i64 _, .int .i64 pos, .string (s.extract pos (pos + n))] rfl rfl (by exact src_new w4 [.int .i64 _, .int .i64 pos, .string (s.extract pos (pos + n))] 40) (by simp [Value.oneCell']) (by unfold maxLen; omega) (by omega) ?_))
                intro a' c' w' ho' hg' hat'
                have HH := Lib.hid (RInv.token (HV2.out.same.trans HS4.out (fun _ h => h.elim)) HO4.out HV2.out.new hg' ho' hat' (t := ⟨_, pos, s.extract pos (pos + n)⟩) (HEq.out hC0) (by omega))
                clear ho' hg' hat'
                go_wp2_with fail
                exact ⟨⟨pos + n, _, a', c', rfl, by go_num, hpn2, _, HH.out⟩, by simp [intOf]; omega⟩
        · have hN : Hid (RInv w wr l (pos + 1) (.slice a acc.length cap) acc.length acc) := by
            refine HV2.out.next (Turned.refl _ _) _ (by omega) ?_
            rw [HSc.out, if_neg, if_pos hbl]
            intro h
            rw [h] at hbl
            exact absurd hbl (by decide)
          clear hbl
          go_wp2_with fail
          exact ⟨⟨pos + 1, _, a, cap, rfl, by go_num, by omega, acc, hN.out⟩, by simp [intOf]; omega⟩
      · have hpe : pos = s.size := by omega
        have hpI : ¬ (pos : Int) < s.size := by omega
        have HO : Hid (wr.ownsRow 0 40 3 (.slice a acc.length cap) acc.length (tall acc)) := HV2.out.own
        go_wp2_with (at_builtin; go_loud (refine wpList_append_src _ rfl _ _ 25 rfl 40 i0 _ 3 32 Try.underlying25 HI.out.1 HI.out.2.1 HI.out.2.2.1 HI.out.2.2.2 rfl (by omega) (.slice a acc.length cap) acc.length (tall acc) rfl (by exact HO.out.alloc _) (some ⟨wr.heap.size, 0, none⟩) 1 1 [.int .i64 13, .int .i64 s.size, .string ⟨#[]⟩] rfl rfl (by exact src_new wr [.int .i64 13, .int .i64 s.size, .string ⟨#[]⟩] 40) ?g4 ?g5 ?g6 ?_))
        case g4 => simp [Value.oneCell']
        case g5 => unfold maxLen; omega
        case g6 => omega
        intro a' c' w' ho' hg' hat'
        have HH : Hid (Same w w' ∧ w'.ownsRow 0 40 3 (.slice a' (acc.length + 1) c') (scanAll l).1.length (tall (scanAll l).1) ∧ (scanAll l).2 = none ∧ ∀ k, (Value.slice a' (acc.length + 1) c').ownBlock = some k → w.heap.size ≤ k) := by
          have hd : l.drop pos = [] := List.drop_of_length_le (by have : s.size = l.length := HSZ.out; omega)
          have h0 := HV2.out.eq
          rw [hd] at h0
          simp only [scanL, List.append_nil] at h0
          have h1 : scanAll l = (acc ++ [⟨13, l.length, ⟨#[]⟩⟩], none) := by rw [hEall.out, h0]
          have hsl : s.size = l.length := HSZ.out
          refine ⟨?_, ?_, by rw [h1], fun k hk => ?_⟩
          · exact (HV2.out.same.alloc _).grown hg' (fun k hk => .inr (HV2.out.new k hk))
          · rw [h1]
            show w'.ownsRow 0 40 3 _ (acc ++ [_]).length (tall (acc ++ [_]))
            rw [tall_snoc, List.length_append]
            rw [hsl] at ho'
            exact ho'
          · rcases hat' with e | e
            · exact HV2.out.new k (by rw [← e]; exact hk)
            · rw [e] at hk
              have h2 := HV2.out.same.size
              simp at hk; omega
        clear ho' hg' hat'
        go_wp2_with fail
        go_ret2
        refine ⟨_, _, rfl, HH.out.1, HH.out.2.1, ?_, HH.out.2.2.2⟩
        rw [HH.out.2.2.1]
        exact ⟨_, _, rfl⟩
end Go.Proofs.Ytoncebnbdjpclaa
