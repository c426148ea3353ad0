/-
  Load of both heaps, and fault, between the heaps' changes.
-/
import Derived.Test.YteohhiefchoamaaLdI
import Derived.Test.YteohhiefchoamaaFault
namespace Go.Proofs.Yteohhiefchoamaa
open Go.RowKit

def ldA (L : List Sym) (room : Int) (n : Nat) (t : List Int) : Int := match loadBad L room n t with
  | some _ => 0
  | none => (layF L n (lst t)).1.headD 0
def ldC (L : List Sym) (room : Int) (n : Nat) (t : List Int) : Int × Int := (loadBad L room n t).getD (0, 0)
def ldN (L : List Sym) (room : Int) (n : Nat) (t : List Int) : List Nd := match loadBad L room n t with
  | some _ => []
  | none => (layF L n (lst t)).2
/-- What an error says: nothing; or a Fault in memory that is new. -/
def EvIs (w : World) (ev : Value) (c i y : Int) (lo : Nat) : Prop := (ev = .nilIface ∧ c = 0 ∧ i = 0 ∧ y = 0) ∨ ∃ q, ev = .iface 104 (.pointer (some ⟨q, 0, none⟩)) ∧ Blk w q 106 #[.int .i64 c, .int .i64 i, whyV y] ∧ lo ≤ q
theorem EvIs.turned {w w' : World} {ev : Value} {c i y : Int} {lo : Nat} {S : Nat → Prop} (h : EvIs w ev c i y lo) (ht : Turned S w w') (hS : ∀ q cs, Blk w q 106 cs → ¬ S q) : EvIs w' ev c i y lo := by
  rcases h with h | ⟨q, e, hB, hq⟩
  · exact .inl h
  · exact .inr ⟨q, e, hB.turned ht (hS q _ hB), hq⟩
/-- Nothing has turned but a Fault. -/
def FarT (lo : Nat) (w w' : World) : Prop := Same w w' ∨ ∃ q cs, lo ≤ q ∧ Blk w q 106 cs ∧ Turned (fun k => k = q) w w'
theorem fault_ev (w : World) (ev : Value) (c i y : Int) (lo : Nat) (h : EvIs w ev c i y lo) : Calls Try.prog 33 #[ev] w fun e w' => e = .returned (fl c i y) ∧ FarT lo w w' := by
  rcases h with ⟨rfl, rfl, rfl, rfl⟩ | ⟨q, rfl, hB, hq⟩
  · exact (fault_nil w).mono fun _ _ h => ⟨h.1, .inl h.2⟩
  · exact (fault_any w q c i y hB).mono fun _ _ h => ⟨h.1, .inr ⟨q, _, hq, hB, h.2⟩⟩
section
variable {w wr w' : World} {bs bm b r q lo : Nat} {vs lu v u : Value} {L : List Sym} {room : Int} {N M : List NV} {cs : Array Value} {t : TypeId}
theorem LdI.far (h : LdI w wr bs bm vs L lu b r room v u N M) (hf : FarT lo wr w') (hlo : w.heap.size ≤ lo) : LdI w w' bs bm vs L lu b r room v u N M := by
  rcases hf with hs | ⟨q, cs, hq, hB, ht⟩
  · exact h.later hs
  · exact h.other hB (Nat.le_trans hlo hq) ht (by decide) (by decide) (by decide) (by decide) (by decide) (by decide)
theorem Blk.farT {g : Nat} (h : Blk wr g t cs) (hf : FarT lo wr w') (hne : t ≠ 106) : Blk w' g t cs := by
  rcases hf with hs | ⟨q, cs, hq, hB, ht⟩
  · exact h.turned hs (fun h => h)
  · exact h.turned ht (fun e => Blk.ne_ h hB hne e)
theorem LentAt.farT {tv : Value} {p : List Int} {g : Nat} (h : LentAt wr tv p g) (hf : FarT lo wr w') : LentAt w' tv p g := by
  rcases hf with hs | ⟨q, cs, hq, hB, ht⟩
  · exact h.turned hs (fun h => h)
  · obtain ⟨c, _, _, ho⟩ := id h
    exact h.turned ht (fun e => own_blk_ne ho hB (by decide) (by rw [← e]; rfl))
theorem FarT.size (hf : FarT lo wr w') : wr.heap.size ≤ w'.heap.size := by
  rcases hf with hs | ⟨q, cs, hq, hB, ht⟩
  · exact hs.size
  · exact ht.size
theorem LdI.load (h : LdI w wr bs bm vs L lu b r room v u N M) (hL : ∀ x ∈ L, 0 ≤ x.arity ∧ x.arity ≤ 6) (hs : Sound (N.map (·.1)) room) (hr4 : room ≤ 4000) (tv : Value) (t : List Int) (hl : RdS wr (hfoot b v) tv t) (hlen : t.length ≤ 17592186044416) :
    Calls Try.prog 15 #[.pointer (some ⟨bs, 0, none⟩), .pointer (some ⟨b, 0, none⟩), tv] wr fun e w' => ∃ ev, e = .returned (.tuple #[.int .i64 (ldA L room N.length t), ev]) ∧
      ∃ v' X, LdI w w' bs bm vs L lu b r room v' u (N ++ X) M ∧ X.map (·.1) = ldN L room N.length t ∧ EvIs w' ev (ldC L room N.length t).1 0 (ldC L room N.length t).2 wr.heap.size ∧ Turned (hfoot b v) wr w' := by
  refine (load_any wr bs bm vs L h.sig hL b room v N h.tw.hp hr4 tv t hl hlen (by have := hs.len; rwa [List.length_map] at this)).mono ?_
  rintro e w' (⟨c, y, ev, hb, rfl, ⟨q, rfl, hB, hq⟩, hs'⟩ | ⟨v', X, a, hb, ha, rfl, hh, hX, ht, hv⟩)
  · refine ⟨_, by unfold ldA; rw [hb], v, [], by rw [List.append_nil]; exact h.later hs', by unfold ldN; rw [hb]; rfl, .inr ⟨q, rfl, ?_, hq⟩, hs'.mono (fun _ h => h.elim)⟩
    unfold ldC; rw [hb]; exact hB
  · exact ⟨_, by unfold ldA; rw [hb]; simp only; rw [ha]; rfl, v', X, h.stepH hh ht hv, by unfold ldN; rw [hb]; exact hX, .inl ⟨rfl, by unfold ldC; rw [hb]; rfl, rfl, by unfold ldC; rw [hb]; rfl⟩, ht⟩
theorem LdI.rload (h : LdI w wr bs bm vs L lu b r room v u N M) (hL : ∀ x ∈ L, 0 ≤ x.arity ∧ x.arity ≤ 6) (hNr : (M.length : Int) ≤ room) (hr4 : room ≤ 4000) (tv : Value) (t : List Int) (hl : RdS wr (hfoot r u) tv t) (hlen : t.length ≤ 17592186044416) :
    Calls Try.prog 35 #[lu, .pointer (some ⟨r, 0, none⟩), tv] wr fun e w' => e = .returned (.tuple #[.int .i64 (ldA L room M.length t), fl (ldC L room M.length t).1 0 (ldC L room M.length t).2]) ∧
      ∃ u' Y, LdI w w' bs bm vs L lu b r room v u' N (M ++ Y) ∧ Y.map (·.1) = ldN L room M.length t ∧ Turned (hfoot r u) wr w' ∧ ∀ x ∈ Y, ∀ k, x.2.ownBlock = some k → wr.heap.size ≤ k := by
  refine (rload_any wr lu L h.lst hL r room u M h.tw.rp hr4 hNr tv t hl hlen).mono ?_
  rintro e w' (⟨c, y, hb, rfl, hs'⟩ | ⟨u', Y, a, hb, ha, rfl, hh, hY, ht, hv, hn⟩)
  · exact ⟨by unfold ldA ldC; rw [hb]; rfl, u, [], by rw [List.append_nil]; exact h.later hs', by unfold ldN; rw [hb]; rfl, hs'.mono (fun _ h => h.elim), fun x hx => by simp at hx⟩
  · exact ⟨by unfold ldA ldC; rw [hb]; simp only; rw [ha]; rfl, u', Y, h.stepR hh ht hv, by unfold ldN; rw [hb]; exact hY, ht, hn⟩
end
theorem ldN_sound {L : List Sym} {K : List Nd} {room : Int} {t : List Int} (hs : Sound K room) (hL : ∀ x ∈ L, 0 ≤ x.arity ∧ x.arity ≤ 6) : Sound (K ++ ldN L room K.length t) room := by
  unfold ldN
  cases hb : loadBad L room K.length t with
  | some _ => simpa using hs
  | none => exact hs.lay hL (items_load hb)
theorem load_neg (L : List Sym) (room : Int) (n : Nat) : loadBad L room n [-1] = some (130, 0) := by
  have hc : checkP L [-1] = 0 := by
    have h1 : badT L [-1] = 0 := badT_zero.2 (fun m hm => by
      obtain rfl : m = -1 := by simpa using hm
      unfold badN
      rw [if_neg (by omega), if_neg (by omega)])
    have h2 : endF L 1 [-1] = 1 := (endF_well L [-1] 1).2 ⟨by omega, by simp [Well, arN]⟩
    unfold checkP
    rw [h1, h2]
    simp
  unfold loadBad
  rw [if_neg (by rw [hc]; simp), if_pos (by simp)]
end Go.Proofs.Yteohhiefchoamaa
