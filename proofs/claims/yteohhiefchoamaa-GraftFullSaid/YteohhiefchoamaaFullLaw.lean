/-
  GraftFull in plain: what Build and Load answer there; the parts in memory.
-/
import Derived.Test.YteohhiefchoamaaBack
import Derived.Laws.StructEq
import Derived.Deep.DeepCutAuto
namespace Go.Proofs.Yteohhiefchoamaa
open Go.RowKit

/-- n nodes without arguments. -/
def mkN (n : Nat) : List Nd := (List.range n).map fun (i : Nat) => ⟨(i : Int), [], 0, false, 0⟩
theorem mkN_succ (n : Nat) : mkN (n + 1) = mkN n ++ [⟨(n : Int), [], 0, false, 0⟩] := by simp [mkN, List.range_succ]
theorem mkN_len (n : Nat) : (mkN n).length = n := by simp [mkN]
def pcells (l : List Int) : List Value := l.flatMap fun n => [.int .i64 n, .slice none 0 0]
theorem pcells_len (l : List Int) : (pcells l).length = l.length * 2 := by
  induction l with
  | nil => rfl
  | cons a r ih => simp [pcells] at ih ⊢; omega
theorem pcells_snoc (l : List Int) (x : Int) : pcells (l ++ [x]) = pcells l ++ [.int .i64 x, .slice none 0 0] := by simp [pcells]
theorem pcells_at : ∀ (l : List Int) (k : Nat) (h : k < l.length), (pcells l)[k * 2]? = some (.int .i64 l[k]) ∧ (pcells l)[k * 2 + 1]? = some (.slice none 0 0)
  | [], k, h => by simp at h
  | a :: r, 0, h => by simp [pcells]
  | a :: r, k + 1, h => by
    have := pcells_at r k (by simpa using h)
    have e : pcells (a :: r) = [.int .i64 a, .slice none 0 0] ++ pcells r := by simp [pcells]
    rw [e]
    have e1 : (k + 1) * 2 = [Value.int .i64 a, Value.slice none 0 0].length + k * 2 := by simp; omega
    have e2 : (k + 1) * 2 + 1 = [Value.int .i64 a, Value.slice none 0 0].length + (k * 2 + 1) := by simp; omega
    rw [e2, e1, List.getElem?_append_right (by omega), List.getElem?_append_right (by omega)]
    simpa using this
theorem info78 : (Try.prog.info? 78).map (fun i => (i.zero, i.size, i.bytes)) = some (some (.agg #[.int .i64 0, .slice none 0 0]), 2, 32) := by kernel_rfl
/-- Parts that were made since W. -/
structure PartsI (W wr : World) (pv : Value) (l : List Int) : Prop where
  same : Same W wr
  own : wr.ownsRow 0 78 2 pv l.length (pcells l)
  new : ∀ j, pv.ownBlock = some j → W.heap.size ≤ j
theorem PartsI.next {W wr w1 w2 : World} {pv pv2 : Value} {l : List Int} {x : Int} (h : PartsI W wr pv l) (hs : Same wr w1) (ho : w2.ownsRow 0 78 2 pv2 (l.length + 1) (pcells l ++ [.int .i64 x, .slice none 0 0]))
    (hg : w1.grownBy w2 pv.ownBlock) (hat : pv2.ownBlock = pv.ownBlock ∨ pv2.ownBlock = some w1.heap.size) : PartsI W w2 pv2 (l ++ [x]) := by
  have h01 := h.same.trans hs (fun _ h => h.elim)
  refine ⟨below_same ((((h01.mono (T := fun k => W.heap.size ≤ k) (fun _ h => h.elim))).grown hg (fun k hk => .inl (h.new k hk))).below (Nat.le_refl _) (fun i hi => hi)), by rw [pcells_snoc, List.length_append]; exact ho, fun j hj => ?_⟩
  rcases hat with e | e
  · exact h.new j (e.symm.trans hj)
  · have e2 := e.symm.trans hj
    obtain rfl : w1.heap.size = j := by simpa using e2
    exact h01.size
theorem PartsI.at_ {W wr : World} {pv : Value} {l : List Int} (h : PartsI W wr pv l) {S : Nat → Prop} (hS : ∀ k, S k → k < W.heap.size ∨ wr.heap.size ≤ k) : PartsAt wr S pv (l.map fun n => ⟨n, []⟩) := by
  obtain ⟨a, c, rfl, _, _⟩ := own_shape h.own
  refine ⟨a, c, by simp, fun h0 => ?_⟩
  rw [List.length_map] at h0
  obtain ⟨g, cap, hv, _, _⟩ := h.own.form h0
  obtain ⟨rfl, rfl⟩ : a = some ⟨g, 0, none⟩ ∧ c = cap := by simpa using hv
  refine ⟨g, 0, rfl, fun hs => ?_, fun k hk => ?_⟩
  · have := h.new g rfl; have h2 := hS g hs; have h3 := (h.own.lt g rfl).2; omega
  · rw [List.length_map] at hk
    obtain ⟨e0, e1⟩ := pcells_at l k hk
    have d0 := h.own.cells (g := g) rfl _ _ e0
    have d1 := h.own.cells (g := g) rfl _ _ e1
    simp only [Addr.add_lit, Nat.zero_add] at d0 d1
    simp only [Nat.zero_add, List.getElem_map]
    exact ⟨d0, _, d1, none, 0, rfl, fun h => by simp at h⟩

theorem RdS.weak {w : World} {S S' : Nat → Prop} {pv : Value} {p : List Int} (h : RdS w S pv p) (hS : ∀ k, S' k → S k) : RdS w S' pv p := by
  obtain ⟨A, c, rfl, h1⟩ := h
  refine ⟨A, c, rfl, fun h0 => ?_⟩
  obtain ⟨bl, off, rfl, hb, hc⟩ := h1 h0
  exact ⟨bl, off, rfl, fun h => hb (hS _ h), hc⟩
theorem PartsAt.weak {w : World} {S S' : Nat → Prop} {pv : Value} {Q : List PartD} (h : PartsAt w S pv Q) (hS : ∀ k, S' k → S k) : PartsAt w S' pv Q := by
  obtain ⟨A, c, rfl, h1⟩ := h
  refine ⟨A, c, rfl, fun h0 => ?_⟩
  obtain ⟨bl, off, rfl, hb, hc⟩ := h1 h0
  refine ⟨bl, off, rfl, fun h => hb (hS _ h), fun k hk => ?_⟩
  obtain ⟨c0, qv, c1, hq⟩ := hc k hk
  exact ⟨c0, qv, c1, hq.weak hS⟩
theorem closed_syms {L : List Sym} {t : List Int} (h : closedB L t = true) : ∀ n ∈ t, n < (L.length : Int) := by
  unfold closedB at h
  rw [Bool.and_eq_true, List.all_eq_true, decide_eq_true_eq] at h
  exact (checkP_zero h.2).2.1
def rQ (t : List Int) : List PartD := t.map fun n => ⟨n, []⟩
def rR (t : List Int) : List (List PartD) := [rQ t, [⟨-1, []⟩]]
theorem ranked_mkN (n : Nat) : Ranked (mkN n) := ⟨fun _ => 0, fun i h d hd => by simp [mkN, down] at hd⟩
theorem res_mkN (n : Nat) (M : List Nd) (a : Nat) (h : a < n) : resF (mkN n ++ M) a = a := by
  have hl : a < (mkN n ++ M).length := by simp [mkN_len]; omega
  refine resF_eq (.here hl ?_)
  rw [List.getElem_append_left (by rw [mkN_len]; exact h)]
  simp [mkN]
theorem cntP_pos {t : List Int} (h : ∀ n ∈ t, 0 ≤ n) : cntP t = t.length := by
  unfold cntP; rw [List.filter_eq_self.2 (fun x hx => by simpa using h x hx)]
theorem rQ_sym (t : List Int) : (rQ t).map (·.sym) = t := by
  induction t with
  | nil => rfl
  | cons a r ih => simp only [rQ, List.map_cons, List.map_map] at ih ⊢; rw [ih]
theorem build0 {L : List Sym} {t : List Int} {n : Nat} {r : Int} (hp : ∀ x ∈ t, 0 ≤ x) (hs : ∀ x ∈ t, x < (L.length : Int)) (hw : Well L 1 t) (hn : 1 ≤ n) :
    buildBad L (mkN n) r (rR t) 0 0 = (if r - n < t.length then some (131, 0, 111) else none) ∧ buildP (mkN n) (rR t) 0 0 = t.map fun x => (x, (0 : Int)) := by
  constructor
  · unfold buildBad
    rw [if_neg (by simp [rR]), if_neg (by rw [mkN_len]; omega)]
    show rightBad L (mkN n) r _ (rQ t) = _
    unfold rightBad
    rw [partsBad_none (by
      intro q hq
      obtain ⟨x, hx, rfl⟩ := List.mem_map.1 hq
      have h1 := hp x hx; have h2 := hs x hx
      unfold partBad
      simp only
      rw [if_neg (by omega), if_neg (by omega), if_neg (by omega)])]
    simp only
    rw [rQ_sym, wellB_of hw, if_neg (by simp), cntP_pos hp, mkN_len]
  · unfold buildP
    show itemsF _ _ (rQ t) = _
    unfold itemsF rQ
    rw [List.map_map]
    refine List.map_congr_left (fun x hx => ?_)
    have h1 := hp x hx
    show (x, handF _ _ ⟨x, []⟩) = _
    unfold handF
    rw [if_neg (show ¬ (x = -1) from by omega)]
theorem build1' {L : List Sym} {t : List Int} {n : Nat} {r : Int} {M : List Nd} (hn : 1 ≤ n) (hr : ((mkN n ++ M).length : Int) ≤ r) :
    buildBad L (mkN n ++ M) r (rR t) 1 ((n : Int) - 1) = none ∧ buildP (mkN n ++ M) (rR t) 1 ((n : Int) - 1) = [(-1, (n : Int) - 1)] := by
  have hl : (mkN n ++ M).length = n + M.length := by simp [mkN_len]
  have e1 : ((n : Int) - 1).toNat = n - 1 := by omega
  have e2 : resF (mkN n ++ M) (n - 1) = n - 1 := res_mkN n M (n - 1) (by omega)
  constructor
  · unfold buildBad
    rw [if_neg (by simp [rR]), if_neg (by rw [hl]; omega), e1, e2]
    show rightBad L _ r _ [⟨-1, []⟩] = _
    unfold rightBad
    rw [partsBad_none (by
      intro q hq
      obtain rfl : q = ⟨-1, []⟩ := by simpa using hq
      unfold partBad
      simp only [leadF, List.foldl_nil]
      rw [if_neg (by omega), if_neg (by omega), if_neg (by omega)])]
    simp only
    rw [if_neg (by simp [wellB, arN]), if_neg (by simp [cntP]; simp at hr; omega)]
  · unfold buildP
    rw [e1, e2]
    show itemsF _ _ [⟨-1, []⟩] = _
    simp only [itemsF, List.map_cons, List.map_nil, handF, leadF, List.foldl_nil, if_true]
    congr 2
    omega
theorem lay1' (L : List Sym) (base : Nat) (a : Int) : layF L base [(-1, a)] = ([a], []) := rfl
theorem load1' {L : List Sym} {t : List Int} {r : Int} {used : Nat} (hc : closedB L t = true) (h : r - used < t.length) : loadBad L r used t = some (131, 111) := by
  unfold closedB at hc
  rw [Bool.and_eq_true, List.all_eq_true, decide_eq_true_eq] at hc
  unfold loadBad
  rw [if_neg (by rw [hc.2]; simp), if_neg, if_pos h]
  rw [List.any_eq_true]
  rintro ⟨x, hx, hn⟩
  have := hc.1 x hx
  simp at this hn
  omega
/-- The two right sides in memory. -/
theorem rights_at {W : World} {S : Nat → Prop} {pv : Value} {t : List Int} (hP : PartsAt W S pv (rQ t)) (hS : ∀ k, S k → k < W.heap.size) :
    RightsAt ((W.alloc (.cells #[.int .i64 (-1), .slice none 0 0] 78)).alloc (.cells #[pv, .slice (some ⟨W.heap.size, 0, none⟩) 1 1] 76)) S (.slice (some ⟨W.heap.size + 1, 0, none⟩) 2 2) (rR t) := by
  have h1 := Blk.new W 78 #[.int .i64 (-1), .slice none 0 0]
  have h2 := Blk.new (W.alloc (.cells #[.int .i64 (-1), .slice none 0 0] 78)) 76 #[pv, .slice (some ⟨W.heap.size, 0, none⟩) 1 1]
  rw [World.size_alloc] at h2
  have h3 := h1.alloc (.cells #[pv, .slice (some ⟨W.heap.size, 0, none⟩) 1 1] 76)
  refine ⟨_, _, rfl, fun _ => ⟨_, 0, rfl, fun h => by have := hS _ h; omega, fun k hk => ?_⟩⟩
  have : k = 0 ∨ k = 1 := by simp [rR] at hk; omega
  rcases this with rfl | rfl
  · exact ⟨pv, (h2.cell 0).trans rfl, hP.same (((Turned.refl _ _).alloc _).alloc _)⟩
  · refine ⟨_, (h2.cell 1).trans rfl, _, _, rfl, fun _ => ⟨_, 0, rfl, fun h => by have := hS _ h; omega, fun k hk => ?_⟩⟩
    obtain rfl : k = 0 := by have h5 : k < 1 := hk; omega
    exact ⟨(h3.cell 0).trans rfl, _, (h3.cell 1).trans rfl, none, 0, rfl, fun h => absurd h (Nat.lt_irrefl 0)⟩

end Go.Proofs.Yteohhiefchoamaa
