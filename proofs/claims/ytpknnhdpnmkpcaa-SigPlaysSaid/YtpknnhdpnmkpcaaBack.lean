/-
  SigBack's walk: the loop that fills, the loop that asks.
-/
import Derived.Test.YtpknnhdpnmkpcaaAwake
import Derived.Maps.AppendAt
namespace Go.Proofs.Ytpknnhdpnmkpcaa
open Go.RowKit Go.Maps
open Go.WideMaps Go.WideElems

/-- A slice value that reads as a list of symbols, in blocks below B. -/
def SymsAt (w : World) (B : Nat) (a : Option Addr) (X : List Sym) : Prop :=
  (∀ x ∈ X, x.name.size ≤ maxLen) ∧ (0 < X.length → ∃ bl off, a = some ⟨bl, off, none⟩ ∧ bl < B ∧ ∀ k (h : k < X.length), w.cell? ⟨bl, off + k * 3, none⟩ = some (.string X[k].name) ∧ w.cell? ⟨bl, off + k * 3 + 1, none⟩ = some (.int .i64 X[k].arity) ∧ w.cell? ⟨bl, off + k * 3 + 2, none⟩ = some (.bool X[k].defd))
theorem SymsAt.keep {w w' : World} {B : Nat} {a : Option Addr} {X : List Sym} (h : SymsAt w B a X) (hB : B ≤ w.heap.size) (ht : Turned (fun i => B ≤ i) w w') : SymsAt w' B a X :=
  ⟨h.1, fun h0 => by
    obtain ⟨bl, off, rfl, hb, hc⟩ := h.2 h0
    refine ⟨bl, off, rfl, hb, fun k hk => ?_⟩
    obtain ⟨h1, h2, h3⟩ := hc k hk
    have hn : ¬ (B ≤ bl) := by omega
    exact ⟨(ht.cell (p := ⟨bl, off + k * 3, none⟩) (by simp; omega) hn).trans h1, (ht.cell (p := ⟨bl, off + k * 3 + 1, none⟩) (by simp; omega) hn).trans h2, (ht.cell (p := ⟨bl, off + k * 3 + 2, none⟩) (by simp; omega) hn).trans h3⟩⟩

def Good (L : List Sym) : Prop := ∀ i (h : i < L.length), findL L L[i].name = some i ∧ L[i].name.size ≤ maxLen
theorem good_nil : Good [] := fun i h => by simp at h
theorem good_snoc {L : List Sym} {x : Sym} (h : Good L) (hf : findL L x.name = none) (hs : x.name.size ≤ maxLen) : Good (L ++ [x]) := by
  intro i hi
  by_cases e : i < L.length
  · have hg := h i e
    rw [List.getElem_append_left e]
    refine ⟨?_, hg.2⟩
    rw [findL_snoc_ne]
    · exact hg.1
    · intro hne; rw [hne, hg.1] at hf; cases hf
  · have : i = L.length := by simp at hi; omega
    subst this
    simp only [List.getElem_append_right (Nat.le_refl _), Nat.sub_self, List.getElem_cons_zero]
    exact ⟨findL_snoc_eq hf, hs⟩
def nameCells (L : List Sym) : List Value := L.map fun x => .string x.name

theorem own_own_ne {w : World} {b1 b2 : Nat} {e e' : TypeId} {s1 s2 n n' : Nat} {v v' : Value} {xs xs' : List Value} (h : w.ownsRow b1 e s1 v n xs) (h' : w.ownsRow b2 e' s2 v' n' xs') (hne : e ≠ e') : ∀ k, v.ownBlock = some k → v'.ownBlock ≠ some k := by
  intro k hk hk'
  rcases h.2 with ⟨rfl, _⟩ | ⟨g, cap, cur, rfl, _, hh, _⟩
  · simp [Value.ownBlock] at hk
  · rcases h'.2 with ⟨rfl, _⟩ | ⟨g', cap', cur', rfl, _, hh', _⟩
    · simp [Value.ownBlock] at hk'
    · simp [Value.ownBlock] at hk hk'
      subst hk; subst hk'
      exact Blk.ne_ (t := e) hh hh' hne rfl

structure BackInv (w wr : World) (b bm : Nat) (vS names : Value) (L : List Sym) : Prop where
  sig : SigAt wr b bm vS L
  good : Good L
  nms : wr.ownsRow 0 9 1 names L.length (nameCells L)
  tur : Turned (fun i => w.heap.size ≤ i) w wr
  hi : ∀ k, foot b bm vS k → w.heap.size ≤ k
  hn : ∀ k, names.ownBlock = some k → w.heap.size ≤ k

section
variable {w wr w' w2 : World} {b bm : Nat} {vS vS' names names' : Value} {L : List Sym} {x : Sym}
theorem foot_names (h : SigAt wr b bm vS L) (hn : wr.ownsRow 0 9 1 names L.length (nameCells L)) : ∀ k, names.ownBlock = some k → ¬ foot b bm vS k := by
  intro k hk hf
  obtain ⟨D, hD, _⟩ := h.map
  rcases hf with rfl | rfl | hf
  · exact own_blk_ne hn h.blk (by decide) hk
  · exact own_map_ne hn hD hk
  · exact own_own_ne hn h.own (by decide) k hk hf
theorem BackInv.same (h : BackInv w wr b bm vS names L) (ht : Same wr w') : BackInv w w' b bm vS names L :=
  ⟨h.sig.turned ht (fun _ _ h => h), h.good, World.ownsRow.turned h.nms ht (fun _ _ h => h), h.tur.trans ht (fun _ h => h.elim), h.hi, h.hn⟩
theorem BackInv.more (h : BackInv w wr b bm vS names L) (h' : SigAt w' b bm vS' (L ++ [x])) (ht : Turned (foot b bm vS) wr w') (hv : vS'.ownBlock = vS.ownBlock ∨ ∃ k, vS'.ownBlock = some k ∧ wr.heap.size ≤ k)
    (hE : addErr L x = 0) (hs : x.name.size ≤ maxLen) {o : Obj} (hown : w2.ownsRow 0 9 1 names' (L.length + 1) (nameCells L ++ [.string x.name])) (hg : (w'.alloc o).grownBy w2 names.ownBlock)
    (hat : names'.ownBlock = names.ownBlock ∨ names'.ownBlock = some (w'.alloc o).heap.size) : BackInv w w2 b bm vS' names' (L ++ [x]) := by
  obtain ⟨_, _, _, hf, _⟩ := addErr_zero hE
  have hn' : w'.ownsRow 0 9 1 names L.length (nameCells L) := World.ownsRow.turned h.nms ht (foot_names h.sig h.nms)
  have ht2 : Turned (fun i => w.heap.size ≤ i) w w' := h.tur.trans ht (fun i hi => .inl (h.hi i hi))
  have hi' : ∀ k, foot b bm vS' k → w.heap.size ≤ k := by
    intro k hk
    rcases hk with rfl | rfl | hk
    · exact h.hi _ (.inl rfl)
    · exact h.hi _ (.inr (.inl rfl))
    · rcases hv with hv | ⟨j, hv, hj⟩
      · exact h.hi k (.inr (.inr (by rw [← hv]; exact hk)))
      · rw [hv] at hk
        obtain rfl : j = k := by simpa using hk
        exact Nat.le_trans h.tur.size hj
  have hfn : ∀ k, foot b bm vS' k → some k ≠ names.ownBlock := by
    intro k hk e
    obtain ⟨D, hD, _⟩ := h'.map
    rcases hk with rfl | rfl | hk
    · exact own_blk_ne hn' h'.blk (by decide) e.symm
    · exact own_map_ne hn' hD e.symm
    · exact own_own_ne hn' h'.own (by decide) k e.symm hk
  have ht3 : Turned (fun k => names.ownBlock = some k) w' w2 := ((Turned.refl _ _).alloc o).grown hg (fun k hk => .inl hk)
  refine ⟨h'.turned ht3 (fun k hk e => hfn k hk e.symm), good_snoc h.good hf hs, ?_, ht2.trans ht3 (fun i hi => .inl (h.hn i hi)), hi', ?_⟩
  · have e : nameCells (L ++ [x]) = nameCells L ++ [.string x.name] := by simp [nameCells]
    rw [e, List.length_append]; exact hown
  · intro k hk
    rcases hat with e | e
    · exact h.hn k (by rw [← e]; exact hk)
    · rw [e] at hk
      have : (w'.alloc o).heap.size = k := by simpa using hk
      have h1 := ht2.size
      have h2 : w'.heap.size ≤ (w'.alloc o).heap.size := by simp
      omega
end
theorem Try.info9 : (Try.prog.info? 9).map (fun i => (i.zero, i.size, i.bytes)) = some (some (.string ⟨#[]⟩), 1, 16) := by kernel_rfl

set_option maxHeartbeats 2000000 in
theorem back_any (w : World) (a : Option Addr) (cap : Nat) (X : List Sym) (hX : SymsAt w w.heap.size a X) (hlen : X.length * 32 ≤ 140737488351232) :
    Calls Try.prog 4 #[.slice a X.length cap] w fun e w' => e = .returned (.bool true) ∧ Below w.heap.size w w' := by
  obtain ⟨i0, hi0, hz0, hz1, hz2⟩ := info_parts Try.info9
  have HI : Hid (Try.prog.info? 9 = some i0 ∧ i0.zero = some (.string ⟨#[]⟩) ∧ i0.size = 1 ∧ i0.bytes = 16) := ⟨hi0, hz0, hz1, hz2⟩
  clear hi0 hz0 hz1 hz2
  have HX := Lib.hid hX
  clear hX
  go_enter Try.func4, Try.ntmps4
  go_wp2_with fail
  refine (awake_any _).mono ?_
  rintro e w1 ⟨rfl, h1⟩
  have H1 := Lib.hid h1
  clear h1
  go_wp2_with fail
  refine (new_any _).mono ?_
  rintro e w2 ⟨b, bm, rfl, h2, hs2, hb, hbm⟩
  have HV : Hid (BackInv w w2 b bm (.slice none 0 0) (.slice none 0 0) []) := by
    have hw1 := H1.out.size
    refine ⟨h2, good_nil, World.ownsRow_nil _ _ _ _, (H1.out.mono (fun _ h => h.elim)).trans hs2 (fun _ h => h.elim), ?_, by simp [Value.ownBlock]⟩
    intro k hk
    rcases hk with rfl | rfl | hk
    · omega
    · omega
    · simp [Value.ownBlock] at hk
  clear h2 hs2 hb hbm H1
  go_wp2_with fail
  go_loopw [5, 6] (fun v i wr => ∃ (k : Nat) (L : List Sym) (vS : Value), k ≤ X.length ∧ i = .int .i64 k ∧ Hid (BackInv w wr b bm vS v L) ∧ ∃ (na : Option Addr) (nc : Nat), v = .slice na L.length nc)
    (fun _ i _ => X.length - (intOf i).toNat)
  case atStart => exact ⟨0, [], _, Nat.zero_le _, rfl, HV, _, _, rfl⟩
  case round =>
    clear HV
    obtain ⟨k, L, vS, hk, rfl, HV, na, nc, rfl⟩ := hrel
    by_cases hlt : k < X.length
    · have hXk := HX.out.keep (Nat.le_refl _) HV.out.tur
      obtain ⟨bl, off, rfl, hbl, hcs⟩ := hXk.2 (by omega)
      obtain ⟨d0, d1, d2⟩ := hcs k hlt
      have hsz := hXk.1 X[k] (List.getElem_mem _)
      obtain ⟨x, hx⟩ : ∃ x, x = X[k] := ⟨_, rfl⟩
      rw [← hx] at d0 d1 d2 hsz
      clear hXk hcs hx
      have hk0 : (0 : Int) ≤ k := by omega
      by_cases hE : addErr L x = 0
      · go_wp2_with fail
        refine (add_ok _ b bm _ L HV.out.sig x hsz hE).mono ?_
        rintro e w3 ⟨v3, rfl, h3, ht3, hv3⟩
        have hnf : ¬ foot b bm vS bl := fun hf => by have := HV.out.hi bl hf; omega
        have hlb : bl < wr.heap.size := World.block_lt_of_cell? wr _ d0
        have e0 : w3.cell? ⟨bl, off + k * 3, none⟩ = some (.string x.name) := (ht3.cell (p := ⟨bl, off + k * 3, none⟩) hlb hnf).trans d0
        have H3 := Lib.hid h3; have HT3 := Lib.hid ht3; have HV3 := Lib.hid hv3; have HE := Lib.hid hE
        have HN3 := Lib.hid (World.ownsRow.turned HV.out.nms ht3 (foot_names HV.out.sig HV.out.nms))
        have h64 : L.length ≤ 64 := HV.out.sig.few
        clear h3 ht3 hv3 hE d0 d1 d2 hnf hlb
        go_wp2_with (first | (at_builtin; refine wpList_append_own_at _ rfl _ _ 26 rfl 0 9 i0 (.string ⟨#[]⟩) 1 16 Try.underlying26 HI.out.1 HI.out.2.1 HI.out.2.2.1 HI.out.2.2.2 rfl (by decide) _ _ _ rfl (HN3.out.alloc _) ⟨w3.heap.size, 0, none⟩ 1 1 [.string x.name] rfl rfl (cell_one_new _ _ _) (by simp [Value.oneCell']) (by unfold maxLen; omega) (by omega) (by omega) ?_; intro v' w4 hown4 hgrow4 _ hat4))
        have HV4 := Lib.hid (HV.out.more H3.out HT3.out HV3.out HE.out hsz hown4 hgrow4 hat4)
        obtain ⟨na', nc', hsh, _, _⟩ := own_shape hown4
        have HS := Lib.hid hsh
        clear hown4 hgrow4 hat4 hsh
        go_roundw
        case rel => exact ⟨k + 1, L ++ [x], v3, by omega, by go_num, HV4, na', nc', by rw [HS.out]; simp⟩
        case measure => simp [intOf]; omega
      · have her : addErr L x ≠ 0 := hE
        obtain ⟨er, hr⟩ : ∃ er, er = addErr L x := ⟨_, rfl⟩
        have hpos : (er == 0) = false := by rw [hr, beq_eq_false_iff_ne]; exact hE
        have hpos2 : (er != 0) = true := by rw [hr]; simpa using hE
        have HC := add_bad wr b bm _ L HV.out.sig x hsz hE
        rw [← hr] at HC
        have HCC := Lib.hid HC
        clear HC hr her hE
        go_wp2_with fail
        refine HCC.out.mono ?_
        rintro e w3 ⟨rfl, hs3⟩
        have HV3 := Lib.hid (HV.out.same hs3)
        clear hs3 HCC
        go_wp2_with (first | (go_at_call 10; refine (len_any _ b bm _ L HV3.out.sig).mono ?_; rintro e w' ⟨rfl, rfl⟩))
        all_goals
          go_roundw
          case rel => exact ⟨k + 1, L, vS, by omega, by go_num, HV3, na, nc, rfl⟩
          case measure => simp [intOf]; omega
    · go_wp2_with fail
      clear HX hlt hk
      go_loopw [9] (fun i wk => ∃ j : Nat, j ≤ L.length ∧ i = .int .i64 j ∧ Hid (BackInv w wk b bm vS (.slice na L.length nc) L)) (fun i _ => L.length - (intOf i).toNat)
      case atStart => exact ⟨0, Nat.zero_le _, rfl, HV⟩
      case round =>
        clear HV
        obtain ⟨j, hj, rfl, HV⟩ := hrel
        have h64 : L.length ≤ 64 := HV.out.sig.few
        by_cases hlt : j < L.length
        · obtain ⟨g, cap', hv, _, hg⟩ := HV.out.nms.form (by omega)
          obtain ⟨rfl, rfl⟩ : na = some ⟨g, 0, none⟩ ∧ nc = cap' := by simpa using hv
          have hcn := HV.out.nms.cells (g := g) rfl j (.string L[j].name) (by simp [nameCells, hlt])
          simp only [Addr.add_lit, Nat.zero_add] at hcn
          have hgood := HV.out.good j hlt
          have HA := Lib.hid (at_some _ b bm vS L HV.out.sig j hlt)
          obtain ⟨x, hx⟩ : ∃ x, x = L[j] := ⟨_, rfl⟩
          rw [← hx] at hcn hgood HA
          clear hx hv
          have hj0 : (0 : Int) ≤ j := by omega
          have hj1 : (j : Int) < L.length := by omega
          obtain ⟨hf, hsz⟩ := hgood
          go_wp2_with fail
          refine HA.out.mono ?_
          rintro e w3 ⟨rfl, hs3⟩
          have hc3 : w3.cell? ⟨g, j, none⟩ = some (.string x.name) := (hs3.cell (p := ⟨g, j, none⟩) hg (fun h => h)).trans hcn
          have HV3 := Lib.hid (HV.out.same hs3)
          have hg3 : g < w3.heap.size := Nat.lt_of_lt_of_le hg hs3.size
          clear hs3 HA hcn
          unfold Sym.val
          go_wp2_with fail
          have H4 : SigAt (w3.alloc (Obj.cells #[Value.string x.name, Value.int IntKind.i64 x.arity, Value.bool x.defd] 31)) b bm vS L := HV3.out.sig.turned (S := fun _ => False) ((Turned.refl _ _).alloc _) (fun _ _ h => h)
          refine (find_some _ b bm vS L H4 x.name hsz j hf).mono ?_
          rintro e w4 ⟨rfl, rfl⟩
          clear H4 hf
          go_wp2_with fail
          go_quiet (fail)
          go_wp2_with fail
          go_roundw
          case rel => exact ⟨j + 1, by omega, by go_num, HV3.out.same (((Turned.refl _ _).alloc _).drewN _)⟩
          case measure => simp [intOf]; omega
        · have hl0 : (L.length : Int) ≤ L.length := by omega
          have HA := Lib.hid (at_none _ b bm vS L HV.out.sig L.length (.inr hl0))
          clear hl0
          go_wp2_with fail
          refine HA.out.mono ?_
          rintro e w3 ⟨rfl, hs3⟩
          have HV3 := Lib.hid (HV.out.same hs3)
          clear hs3 HA
          unfold Sym.zero Sym.val
          have H4 := Lib.hid (HV3.out.same (w' := w3.alloc (Obj.cells #[.string ⟨#[]⟩, .int .i64 0, .bool false] 31)) ((Turned.refl _ _).alloc _))
          go_wp2_with (first | (go_at_call 10; refine (len_any _ b bm _ L H4.out.sig).mono ?_; rintro e w' ⟨rfl, rfl⟩))
          all_goals go_ret
          all_goals exact ⟨rfl, H4.out.tur.below (Nat.le_refl _) (fun _ h => h)⟩
end Go.Proofs.Ytpknnhdpnmkpcaa
