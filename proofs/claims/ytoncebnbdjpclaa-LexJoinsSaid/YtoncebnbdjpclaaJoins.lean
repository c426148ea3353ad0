/-
  The walk of LexJoins.
-/
import Derived.Test.YtoncebnbdjpclaaJoinLaw
import Derived.Test.YtoncebnbdjpclaaAwake
import Derived.Laws.OwnMore
import Derived.Deep.RegionHeld3
namespace Go.Proofs.Ytoncebnbdjpclaa
open Go.RowKit

theorem scanAll_le2 (l : List UInt8) : (scanAll l).1.length ≤ 20001 := by
  have key : ∀ (l : List UInt8) (off : Nat) (c : Bool) (k : Nat), (scanL off c k l).1.length ≤ l.length := by
    intro l
    induction l with
    | nil => intro off c k; exact Nat.le_refl _
    | cons b r ih =>
      intro off c k
      simp only [scanL]
      repeat' split
      all_goals simp only [List.length_cons, List.length_nil]
      all_goals first | omega | (have := ih (off + 1) c (k - 1); omega) | (have := ih (off + 1) (b != 10) 0; omega) | (have := ih (off + 1) true 0; omega) | (have := ih (off + 1) false 0; omega) | (have := ih (off + 1) false (lenAt (kindAt (b :: r)) (b :: r) - 1); omega)
  unfold scanAll
  split
  · simp
  · rename_i h
    have := key l 0 false 0
    split
    · simp
    · simp; omega

theorem scanL_place : ∀ (l : List UInt8) (off : Nat) (c : Bool) (k : Nat) (e : Nat × Nat), (scanL off c k l).2 = some e → e.2 ≤ off + l.length
  | [], off, c, k, e, h => by cases h
  | b :: r, off, c, k, e, h => by
    have ih := fun c k => scanL_place r (off + 1) c k e
    simp only [List.length_cons]
    simp only [scanL] at h
    split at h
    · have := ih _ _ h; omega
    · split at h
      · have := ih _ _ h; omega
      · split at h
        · have := ih _ _ h; omega
        · split at h
          · have := ih _ _ h; omega
          · split at h
            · have h1 := congrArg Prod.snd (Option.some.inj h); simp at h1; omega
            · split at h
              · have h1 := congrArg Prod.snd (Option.some.inj h); simp at h1; omega
              · have := ih _ _ h; omega
theorem scanL_places : ∀ (l : List UInt8) (off : Nat) (c : Bool) (k : Nat), ∀ t ∈ (scanL off c k l).1, t.place ≤ off + l.length
  | [], off, c, k, t, h => by cases h
  | b :: r, off, c, k, t, h => by
    have ih := fun c k => scanL_places r (off + 1) c k t
    simp only [List.length_cons]
    simp only [scanL] at h
    split at h
    · have := ih _ _ h; omega
    · split at h
      · have := ih _ _ h; omega
      · split at h
        · have := ih _ _ h; omega
        · split at h
          · have := ih _ _ h; omega
          · split at h
            · cases h
            · split at h
              · cases h
              · rcases List.mem_cons.1 h with rfl | h
                · simp only []; omega
                · have := ih _ _ h; omega
theorem scanAll_places (l : List UInt8) : ∀ t ∈ (scanAll l).1, t.place ≤ 20000 := by
  intro t h
  unfold scanAll at h
  split at h
  · cases h
  · rename_i hl
    split at h
    · cases h
    · rcases List.mem_append.1 h with h | h
      · have := scanL_places l 0 false 0 t h; omega
      · obtain rfl : t = _ := by simpa using h
        simp; omega
theorem scanAll_place (l : List UInt8) (e : Nat × Nat) (h : (scanAll l).2 = some e) : e.2 ≤ 20000 := by
  unfold scanAll at h
  split at h
  · have h1 := congrArg Prod.snd (Option.some.inj h); simp at h1; omega
  · rename_i hl
    split at h
    · rename_i e' he
      have := scanL_place l 0 false 0 e' he
      obtain rfl : e' = e := Option.some.inj h
      omega
    · cases h

theorem want_app {w4 wr w' : World} {v v' : Value} {o : Obj} (hs : Same w4 wr) (hn : ∀ j, v.ownBlock = some j → w4.heap.size ≤ j) (hg : (wr.alloc o).grownBy w' v.ownBlock) (hat : v'.ownBlock = v.ownBlock ∨ v'.ownBlock = some (wr.heap.size + 1)) :
    Same w4 w' ∧ ∀ j, v'.ownBlock = some j → w4.heap.size ≤ j := by
  refine ⟨(hs.alloc o).grown hg (fun k hk => .inr (hn k hk)), fun j hj => ?_⟩
  rcases hat with e | e
  · exact hn j (by rw [← e]; exact hj)
  · rw [e] at hj
    obtain rfl : wr.heap.size + 1 = j := by simpa using hj
    have := hs.size
    omega

theorem want_app2 {w4 wr w' : World} {v v' : Value} {o o2 : Obj} (hs : Same w4 wr) (hn : ∀ j, v.ownBlock = some j → w4.heap.size ≤ j) (hg : ((wr.alloc o).alloc o2).grownBy w' v.ownBlock) (hat : v'.ownBlock = v.ownBlock ∨ v'.ownBlock = some (wr.heap.size + 1 + 1)) :
    Same w4 w' ∧ ∀ j, v'.ownBlock = some j → w4.heap.size ≤ j := by
  refine ⟨((hs.alloc o).alloc o2).grown hg (fun k hk => .inr (hn k hk)), fun j hj => ?_⟩
  rcases hat with e | e
  · exact hn j (by rw [← e]; exact hj)
  · rw [e] at hj
    obtain rfl : wr.heap.size + 1 + 1 = j := by simpa using hj
    have := hs.size
    omega

set_option maxRecDepth 100000 in
set_option maxHeartbeats 4000000 in
theorem joins_law (w : World) (s t : ByteArray) (hs63 : s.size ≤ 9223372036854775807) (ht63 : t.size ≤ 9223372036854775807) : Calls Try.prog 5 #[.string s, .string t] w fun e w' => e = .returned (.bool true) ∧ Below w.heap.size w w' := by
  have HT63 := Lib.hid ht63; have HS63 := Lib.hid hs63
  by_cases hbig : (20000 : Int) < s.size
  · go_enter Try.func5, Try.ntmps5
    go_wp2_with fail
    refine (awake_any _).mono ?_
    rintro e w1 ⟨rfl, hs1⟩
    have HS1 := Lib.hid hs1
    clear hs1
    go_wp2_with fail
    go_ret
    exact ⟨rfl, HS1.out.below (Nat.le_refl _) (fun _ h => h.elim)⟩
  · by_cases hbig2 : (20000 : Int) < t.size
    · go_enter Try.func5, Try.ntmps5
      go_wp2_with fail
      refine (awake_any _).mono ?_
      rintro e w1 ⟨rfl, hs1⟩
      have HS1 := Lib.hid hs1
      clear hs1
      go_wp2_with fail
      go_ret
      exact ⟨rfl, HS1.out.below (Nat.le_refl _) (fun _ h => h.elim)⟩
    · by_cases hbig3 : (20000 : Int) < (s.size : Int) + 1 + t.size
      · go_enter Try.func5, Try.ntmps5
        go_wp2_with fail
        refine (awake_any _).mono ?_
        rintro e w1 ⟨rfl, hs1⟩
        have HS1 := Lib.hid hs1
        clear hs1
        go_wp2_with fail
        go_ret
        exact ⟨rfl, HS1.out.below (Nat.le_refl _) (fun _ h => h.elim)⟩
      · obtain ⟨a, ha⟩ : ∃ a, s.data.toList = a := ⟨_, rfl⟩
        obtain ⟨b, hb⟩ : ∃ b, t.data.toList = b := ⟨_, rfl⟩
        have hal : s.size = a.length := by rw [← ha, Lib.size_eq]
        have hbl : t.size = b.length := by rw [← hb, Lib.size_eq]
        have HA := Lib.hid ha; have HB := Lib.hid hb
        have HLaw := Lib.hid (scanAll_join a b (by omega) (by omega) (by omega))
        have HAl := Lib.hid hal; have HBl := Lib.hid hbl
        have HLa := Lib.hid (scanAll_le2 a); have HLb := Lib.hid (scanAll_le2 b); have HLz := Lib.hid (scanAll_le2 (a ++ 10 :: b))
        clear ha hb hal hbl
        go_enter Try.func5, Try.ntmps5
        go_wp2_with fail
        refine (awake_any _).mono ?_
        rintro e w1 ⟨rfl, hs1⟩
        have HS1 := Lib.hid hs1
        clear hs1
        go_wp2_with fail
        refine (scan_any _ s a HA.out HS63.out).mono ?_
        rintro e w2 ⟨v2, e2, rfl, hs2, ho2, he2, _⟩
        have HS2 := Lib.hid (HS1.out.trans hs2 (fun _ h => h.elim)); have HO2 := Lib.hid ho2; have HE2 := Lib.hid he2
        clear hs2 ho2 he2
        go_wp2_with fail
        refine (scan_any _ t b HB.out HT63.out).mono ?_
        rintro e w3 ⟨v3, e3, rfl, hs3, ho3, he3, _⟩
        have HS3 := Lib.hid (HS2.out.trans hs3 (fun _ h => h.elim)); have HO3 := Lib.hid ho3; have HE3 := Lib.hid he3
        have HO23 := Lib.hid (World.ownsRow.turned HO2.out hs3 (fun _ _ h => h)); have HE23 := Lib.hid (HE2.out.same hs3)
        clear hs3 ho3 he3 HO2 HE2
        go_wp2_with fail
        have hz : (s ++ ⟨#[10]⟩ ++ t).data.toList = a ++ 10 :: b := by
          rw [ByteArray.data_append, ByteArray.data_append, Array.toList_append, Array.toList_append, HA.out, HB.out]
          simp
        have hz63 : (s ++ ⟨#[10]⟩ ++ t).size ≤ 9223372036854775807 := by
          rw [Lib.size_eq, hz]
          have := HAl.out; have := HBl.out
          simp; omega
        refine (scan_any _ _ _ hz hz63).mono ?_
        rintro e w4 ⟨vz, ez, rfl, hs4, hoz, hez, _⟩
        have HS4 := Lib.hid (HS3.out.trans hs4 (fun _ h => h.elim)); have HOz := Lib.hid hoz; have HEz := Lib.hid hez
        have HO24 := Lib.hid (World.ownsRow.turned HO23.out hs4 (fun _ _ h => h)); have HE24 := Lib.hid (HE23.out.same hs4)
        have HO34 := Lib.hid (World.ownsRow.turned HO3.out hs4 (fun _ _ h => h)); have HE34 := Lib.hid (HE3.out.same hs4)
        clear hs4 hoz hez hz hz63 HO3 HE3 HO23 HE23
        have hwr : IntKind.i64.wrap ((s.size : Int) + 1) = (s.size : Int) + 1 := wrap_small _ (by omega) (by omega)
        have ta := fun W g => assert30_yes W (.pointer (some ⟨g, 0, none⟩))
        have tn := fun W => assert30_nil W
        rcases HLaw.out with ⟨e, hA2, hZ⟩ | ⟨hA2, e, hB2, hZ⟩ | ⟨hA2, hB2, hZ, A, x, hA1, hZ1⟩
        · have h2 := HE24.out
          have hzz := HEz.out
          rw [hA2] at h2
          rw [hZ] at hzz
          have HZZ := Lib.hid hzz
          obtain ⟨g2, rfl, hb2⟩ := h2
          obtain ⟨gz, rfl, _⟩ := hzz
          have q0 := hb2.cell 0
          have q1 := hb2.cell 1
          simp at q0 q1
          clear hb2
          cases hB2 : (scanAll b).2 with
          | none =>
            have h3 := HE34.out
            rw [hB2] at h3
            obtain rfl : e3 = .nilIface := h3
            clear hB2 hA2 hZ
            go_wp2_with fail
            go_quiet (fail)
            go_wp2_with fail
            go_region_law ((go_simp; go_at_call 10; refine (same_any _ (.iface 30 (.pointer (some ⟨gz, 0, none⟩))) _ (some e) (HZZ.out.same (Turned.refl _ _ |>.drewN _ |>.alloc _)) ⟨_, _, rfl, Blk.new _ 37 _⟩).mono ?_; rintro e w6 ⟨rfl, hs6⟩; have HS6 := Lib.hid (((HS4.out.drewN _).alloc _).trans hs6 (fun _ h => h.elim)); clear hs6))
            all_goals
              go_wp2_with fail
              go_ret
              exact ⟨rfl, HS6.out.below (Nat.le_refl _) (fun _ h => h.elim)⟩
          | some e' =>
            have h3 := HE34.out
            rw [hB2] at h3
            obtain ⟨g3, rfl, _⟩ := h3
            clear hB2 hA2 hZ
            go_wp2_with fail
            go_quiet (fail)
            go_wp2_with fail
            go_region_law ((go_simp; go_at_call 10; refine (same_any _ (.iface 30 (.pointer (some ⟨gz, 0, none⟩))) _ (some e) (HZZ.out.same (Turned.refl _ _ |>.drewN _ |>.alloc _)) ⟨_, _, rfl, Blk.new _ 37 _⟩).mono ?_; rintro e w6 ⟨rfl, hs6⟩; have HS6 := Lib.hid (((HS4.out.drewN _).alloc _).trans hs6 (fun _ h => h.elim)); clear hs6))
            all_goals
              go_wp2_with fail
              go_ret
              exact ⟨rfl, HS6.out.below (Nat.le_refl _) (fun _ h => h.elim)⟩
        · have h2 := HE24.out
          have h3 := HE34.out
          have hzz := HEz.out
          rw [hA2] at h2
          rw [hB2] at h3
          rw [hZ] at hzz
          have HZZ := Lib.hid hzz
          obtain rfl : e2 = .nilIface := h2
          obtain ⟨g3, rfl, hb3⟩ := h3
          obtain ⟨gz, rfl, _⟩ := hzz
          have HLt3 := Lib.hid hb3.lt
          have q0 := hb3.cell 0
          have q1 := hb3.cell 1
          simp at q0 q1
          have hle : Hid ((e.2 : Int) + ((s.size : Int) + 1) = ((e.2 + (a.length + 1) : Nat) : Int)) := by have := HAl.out; unfold Hid; omega
          have hple : Hid (e.2 ≤ 20000) := scanAll_place b e hB2
          have hwe : IntKind.i64.wrap ((e.2 : Int) + ((s.size : Int) + 1)) = (e.2 : Int) + ((s.size : Int) + 1) := wrap_small _ (by omega) (by have := hple.out; omega)
          clear hb3 hA2 hB2 hZ
          go_wp2_with fail
          go_quiet (fail)
          go_wp2_with fail
          have nn0 := World.new_ne w4 ⟨g3, 0, none⟩ q0
          have HQ0 := Lib.hid q0
          have HQ1 := Lib.hid q1
          clear ta tn hwr
          go_region_held3 (fun w' => w'.cell? ⟨g3, 0, none⟩ = some (.int .i64 e.1) ∧ w'.cell? ⟨g3, 1, none⟩ = some (.int .i64 e.2)) (go_keep) (first | (go_at_call 10; refine (same_any _ (.iface 30 (.pointer (some ⟨gz, 0, none⟩))) _ (some (e.1, e.2 + (a.length + 1))) (HZZ.out.same (Turned.refl _ _ |>.drewN _ |>.alloc _)) ⟨_, _, rfl, by rw [hle.out]; exact Blk.new _ 37 _⟩).mono ?_; rintro e w6 ⟨rfl, hs6⟩; have HS46 := Lib.hid (((Turned.refl (fun _ => False) w4 |>.drewN _).alloc _).trans hs6 (fun _ h => h.elim)); have z0 : w6.cell? ⟨g3, 0, none⟩ = some (.int .i64 e.1) := (HS46.out.cell (p := ⟨g3, 0, none⟩) HLt3.out (fun h => h)).trans HQ0.out; have z1 : w6.cell? ⟨g3, 1, none⟩ = some (.int .i64 e.2) := (HS46.out.cell (p := ⟨g3, 1, none⟩) HLt3.out (fun h => h)).trans HQ1.out; clear hs6))
          all_goals
            go_wp2_with fail
            go_ret
            exact ⟨rfl, (HS4.out.trans HS46.out (fun _ h => h.elim)).below (Nat.le_refl _) (fun _ h => h.elim)⟩
        · have h2 := HE24.out
          have h3 := HE34.out
          have hzz := HEz.out
          rw [hA2] at h2
          rw [hB2] at h3
          rw [hZ] at hzz
          obtain rfl : e2 = .nilIface := h2
          obtain rfl : e3 = .nilIface := h3
          obtain rfl : ez = .nilIface := hzz
          have HT2 := Lib.hid (TRd.of_own HO24.out); have HT3 := Lib.hid (TRd.of_own HO34.out); have HTz := Lib.hid (TRd.of_own HOz.out)
          have HP := Lib.hid (scanAll_places b)
          rw [hA1] at HT2 HLa HO24
          rw [hZ1] at HTz HLz
          obtain ⟨B, hB⟩ : ∃ B, B = (scanAll b).1 := ⟨_, rfl⟩
          rw [← hB] at HT3 HTz HP HLb HLz HO34
          obtain ⟨a2, c2, rfl, _, _⟩ := own_shape HO24.out
          obtain ⟨a3, c3, rfl, _, _⟩ := own_shape HO34.out
          obtain ⟨n2, hn2⟩ : ∃ n2, n2 = (A ++ [x]).length := ⟨_, rfl⟩
          have hn2I : (n2 : Int) = (A.length : Int) + 1 := by rw [hn2]; simp
          have hAl : A.length ≤ 20001 := by have := HLa.out; simp at this; omega
          have hBl : B.length ≤ 20001 := HLb.out
          rw [← hn2] at HT2 ⊢
          have HN2 := Lib.hid hn2
          obtain ⟨i0, hi0, hz0, hz1, hz2⟩ := info_parts info40
          have HI := Lib.hid (And.intro hi0 (And.intro hz0 (And.intro hz1 hz2)))
          clear hA2 hB2 hZ hA1 hZ1 hB hn2 hi0 hz0 hz1 hz2 ta tn
          go_wp2_with fail
          go_quiet (fail)
          go_wp2_with fail
          go_loopw [17, 18] (fun v i wr => ∃ (k : Nat) (a1 : Option Addr) (c1 : Nat), v = .slice a1 k c1 ∧ i = .int .i64 k ∧ k ≤ A.length ∧ Hid (Same w4 wr ∧ wr.ownsRow 0 40 3 (.slice a1 k c1) k (tall (A.take k)) ∧ ∀ j, (Value.slice a1 k c1).ownBlock = some j → w4.heap.size ≤ j)) (fun _ i _ => A.length - (intOf i).toNat)
          case atStart => exact ⟨0, none, 0, rfl, rfl, Nat.zero_le _, (Turned.refl _ _).drewN _, World.ownsRow_nil _ _ _ _, fun j hj => by simp [Value.ownBlock] at hj⟩
          case round =>
            obtain ⟨k, a1, c1, rfl, rfl, hk, HV⟩ := hrel
            have hkw : IntKind.i64.wrap ((k : Int) + 1) = (k : Int) + 1 := wrap_small _ (by omega) (by omega)
            by_cases hlt : k < A.length
            · obtain ⟨A2, ca2, ea, hA⟩ := HT2.out.same HV.out.1
              have hl2 : (A ++ [x]).length = n2 := HN2.out.symm
              rw [hl2] at ea
              injection ea with e1 _ e2
              subst e1; subst e2
              obtain ⟨g, rfl, hc⟩ := hA (by simp)
              obtain ⟨d0, d1, d2⟩ := hc k (by simp; omega)
              have hget : (A ++ [x])[k]'(by simp; omega) = A[k] := List.getElem_append_left hlt
              rw [hget] at d0 d1 d2
              have HTk : Hid (A.take (k + 1) = A.take k ++ [A[k]]) := List.take_succ_eq_append_getElem hlt
              obtain ⟨y, hy⟩ : ∃ y, y = A[k] := ⟨_, rfl⟩
              rw [← hy] at d0 d1 d2 HTk
              have HO := Lib.hid HV.out.2.1
              have hk1 : (k : Int) + 1 < n2 := by omega
              have hk2 : (k : Int) < n2 := by omega
              clear hc hA hget hy
              go_wp2_with (at_builtin; go_loud (refine wpList_append_src _ rfl _ _ 25 rfl 40 i0 _ 3 32 Try.underlying25 HI.out.1 HI.out.2.1 HI.out.2.2.1 HI.out.2.2.2 rfl (by omega) (.slice a1 k c1) k (tall (A.take k)) rfl (by exact HO.out.alloc _) (some ⟨wr.heap.size, 0, none⟩) 1 1 [.int .i64 y.kind, .int .i64 y.place, .string y.text] rfl rfl (by exact src_new wr [.int .i64 y.kind, .int .i64 y.place, .string y.text] 40) (by simp [Value.oneCell']) (by unfold maxLen; omega) (by omega) ?_))
              intro a' c' w' ho' hg' hat'
              have HW := Lib.hid (want_app HV.out.1 HV.out.2.2 hg' hat')
              have HO2 : Hid (w'.ownsRow 0 40 3 (.slice a' (k + 1) c') (k + 1) (tall (A.take (k + 1)))) := by
                rw [HTk.out, tall_snoc]; exact ho'
              clear ho' hg' hat' d0 d1 d2
              go_wp2_with fail
              exact ⟨⟨k + 1, a', c', rfl, by go_num, by omega, HW.out.1, HO2.out, HW.out.2⟩, by simp [intOf]; omega⟩
            · have hkA : k = A.length := by omega
              have HO : Hid (wr.ownsRow 0 40 3 (.slice a1 k c1) k (tall (A ++ (B.take 0).map (shiftT (a.length + 1))))) := by
                have h1 := HV.out.2.1
                rw [hkA, List.take_length] at h1
                unfold Hid
                rw [hkA, List.take_zero, List.map_nil, List.append_nil]; exact h1
              subst hkA
              have hk3 : ¬ (A.length : Int) + 1 < n2 := by omega
              go_wp2_with fail
              go_loopw [17, 19] (fun v i wr => ∃ (m k2 : Nat) (a1 : Option Addr) (c1 : Nat), v = .slice a1 m c1 ∧ i = .int .i64 k2 ∧ k2 ≤ B.length ∧ m ≤ 20001 + k2 ∧ Hid (Same w4 wr ∧ wr.ownsRow 0 40 3 (.slice a1 m c1) m (tall (A ++ (B.take k2).map (shiftT (a.length + 1)))) ∧ ∀ j, (Value.slice a1 m c1).ownBlock = some j → w4.heap.size ≤ j)) (fun _ i _ => B.length - (intOf i).toNat)
              case atStart => exact ⟨A.length, 0, a1, c1, rfl, rfl, Nat.zero_le _, by omega, HV.out.1, HO.out, HV.out.2.2⟩
              case round =>
                obtain ⟨m, k2, a4, c4, rfl, rfl, hk2, hm, HU⟩ := hrel
                have hk2w : IntKind.i64.wrap ((k2 : Int) + 1) = (k2 : Int) + 1 := wrap_small _ (by omega) (by omega)
                by_cases hlt2 : k2 < B.length
                · obtain ⟨A3, ca3, ea, hA⟩ := HT3.out.same HU.out.1
                  injection ea with e1 _ e2
                  subst e1; subst e2
                  obtain ⟨g, rfl, hc⟩ := hA (by omega)
                  obtain ⟨d0, d1, d2⟩ := hc k2 hlt2
                  have HTk : Hid ((B.take (k2 + 1)).map (shiftT (a.length + 1)) = (B.take k2).map (shiftT (a.length + 1)) ++ [shiftT (a.length + 1) B[k2]]) := by
                    unfold Hid; rw [List.take_succ_eq_append_getElem hlt2, List.map_append]; rfl
                  have hpl := HP.out B[k2] (List.getElem_mem _)
                  obtain ⟨y, hy⟩ : ∃ y, y = B[k2] := ⟨_, rfl⟩
                  rw [← hy] at d0 d1 d2 HTk hpl
                  have HO4 := Lib.hid HU.out.2.1
                  have hk2I : (k2 : Int) < B.length := by omega
                  have hle : Hid ((y.place : Int) + ((s.size : Int) + 1) = ((y.place + (a.length + 1) : Nat) : Int)) := by have := HAl.out; unfold Hid; omega
                  have hwe : IntKind.i64.wrap ((y.place : Int) + ((s.size : Int) + 1)) = (y.place : Int) + ((s.size : Int) + 1) := wrap_small _ (by omega) (by omega)
                  clear hc hA hy
                  have hsrc : 0 < 1 → ∃ ad, some (⟨wr.heap.size + 1, 0, none⟩ : Addr) = some ad ∧ ∀ j u, ([.int .i64 y.kind, .int .i64 ((y.place : Int) + ((s.size : Int) + 1)), .string y.text] : List Value)[j]? = some u → ((wr.alloc (.cells #[.int .i64 y.kind, .int .i64 ((y.place : Int) + ((s.size : Int) + 1)), .string y.text] 40)).alloc (.cells #[.int .i64 y.kind, .int .i64 ((y.place : Int) + ((s.size : Int) + 1)), .string y.text] 40)).cell? (ad.add j) = some u := by
                    have h1 := src_new (wr.alloc (.cells #[.int .i64 y.kind, .int .i64 ((y.place : Int) + ((s.size : Int) + 1)), .string y.text] 40)) [.int .i64 y.kind, .int .i64 ((y.place : Int) + ((s.size : Int) + 1)), .string y.text] 40
                    have h2 : (wr.alloc (.cells #[.int .i64 y.kind, .int .i64 ((y.place : Int) + ((s.size : Int) + 1)), .string y.text] 40)).heap.size = wr.heap.size + 1 := by simp
                    rw [h2] at h1
                    exact h1
                  have HSrc := Lib.hid hsrc
                  clear hsrc
                  go_wp2_with (at_builtin; go_loud (refine wpList_append_src _ rfl _ _ 25 rfl 40 i0 _ 3 32 Try.underlying25 HI.out.1 HI.out.2.1 HI.out.2.2.1 HI.out.2.2.2 rfl (by omega) (.slice a4 m c4) m (tall (A ++ (B.take k2).map (shiftT (a.length + 1)))) rfl (by exact (HO4.out.alloc _).alloc _) (some ⟨wr.heap.size + 1, 0, none⟩) 1 1 [.int .i64 y.kind, .int .i64 ((y.place : Int) + ((s.size : Int) + 1)), .string y.text] rfl rfl (by exact HSrc.out) (by simp [Value.oneCell']) (by unfold maxLen; omega) (by omega) ?_))
                  intro a' c' w' ho' hg' hat'
                  have HW := Lib.hid (want_app2 HU.out.1 HU.out.2.2 hg' hat')
                  have HO2 : Hid (w'.ownsRow 0 40 3 (.slice a' (m + 1) c') (m + 1) (tall (A ++ (B.take (k2 + 1)).map (shiftT (a.length + 1))))) := by
                    unfold Hid
                    rw [HTk.out, ← List.append_assoc, tall_snoc, List.map_take]
                    rw [hle.out] at ho'
                    exact ho'
                  clear ho' hg' hat' d0 d1 d2
                  go_wp2_with fail
                  exact ⟨⟨m + 1, k2 + 1, a', c', rfl, by go_num, by omega, by omega, HW.out.1, HO2.out, HW.out.2⟩, by simp [intOf]; omega⟩
                · have hB2 : k2 = B.length := by omega
                  have hk2I : ¬ (k2 : Int) < B.length := by omega
                  have HTw : Hid (TRd wr (.slice a4 m c4) (A ++ B.map (shiftT (a.length + 1)))) := by
                    have h1 := HU.out.2.1
                    rw [hB2, List.take_length] at h1
                    have hml : m = (A ++ B.map (shiftT (a.length + 1))).length := by
                      have h2 := h1.1
                      rw [tall_length] at h2
                      omega
                    rw [hml] at h1 ⊢
                    exact TRd.of_own h1
                  have HTz2 := Lib.hid (HTz.out.same HU.out.1)
                  go_wp2_with fail
                  refine (tokens_any _ _ _ (A ++ B.map (shiftT (a.length + 1))) HTz2.out HTw.out (by have := HLz.out; omega)).mono ?_
                  rintro e w9 ⟨rfl, hs9⟩
                  go_wp2_with fail
                  go_ret
                  exact ⟨rfl, (HS4.out.trans (HU.out.1.trans hs9 (fun _ h => h.elim)) (fun _ h => h.elim)).below (Nat.le_refl _) (fun _ h => h.elim)⟩
end Go.Proofs.Ytoncebnbdjpclaa
