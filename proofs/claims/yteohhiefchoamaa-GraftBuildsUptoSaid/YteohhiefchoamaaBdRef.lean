/-
  The document's Build: end of parts, Leads, plain law, walks.
-/
import Derived.Test.YteohhiefchoamaaRLoad
import Derived.Test.YteohhiefchoamaaReach
import Derived.Test.YteohhiefchoamaaRefHeap
import Derived.BigQuiet
import Derived.Test.YteohhiefchoamaaBuild2
import Derived.Deep.DeepCutAuto
namespace Go.Proofs.Yteohhiefchoamaa
open Go.RowKit

/-- So many things stand whole. -/
def fullF (L : List Sym) : Nat → List Int → Bool
  | 0, _ => true
  | _ + 1, [] => false
  | w + 1, n :: r => fullF L (w + arN L n) r
theorem fullF_well (L : List Sym) : ∀ (l : List Int) (w : Nat), Well L w l ↔ (fullF L w l = true ∧ consF L w l = l.length)
  | [], 0 => by simp [Well, fullF, consF]
  | [], w + 1 => by simp [Well, fullF]
  | n :: r, 0 => by simp [Well, consF]
  | n :: r, w + 1 => by
    have ih := fullF_well L r (w + arN L n)
    simp only [Well, fullF, consF, List.length_cons, Nat.add_sub_cancel]
    constructor
    · rintro ⟨_, h⟩
      obtain ⟨h1, h2⟩ := ih.1 h
      exact ⟨h1, by omega⟩
    · rintro ⟨h1, h2⟩
      exact ⟨by omega, ih.2 ⟨h1, by omega⟩⟩
theorem fullF_of_well (L : List Sym) : ∀ (l : List Int) (w w' : Nat), Well L w l → w' ≤ w → fullF L w' l = true
  | l, _, 0, _, _ => by cases l <;> rfl
  | [], w, w' + 1, h, hw => by
    have : w = 0 := h
    omega
  | n :: r, w, w' + 1, h, hw => by
    simp only [fullF]
    exact fullF_of_well L r (w - 1 + arN L n) (w' + arN L n) h.2 (by omega)
/-- What end of parts answers. -/
def endP (L : List Sym) (l : List Int) (p : Nat) : Int := if fullF L 1 (l.drop p) then ((p + consF L 1 (l.drop p) : Nat) : Int) else -1
theorem endP_whole (L : List Sym) (l : List Int) : (endP L l 0 = (l.length : Int)) ↔ Well L 1 l := by
  unfold endP
  rw [List.drop_zero, Nat.zero_add]
  have h := fullF_well L l 1
  cases hf : fullF L 1 l with
  | false =>
    rw [hf] at h
    constructor
    · intro h2
      simp at h2
    · intro h2; have := (h.1 h2).1; simp at this
  | true =>
    rw [hf] at h
    constructor
    · intro h2
      rw [if_pos rfl] at h2; exact h.2 ⟨rfl, Int.ofNat.inj h2⟩
    · intro h2
      have := (h.1 h2).2
      simp [this]

/-- Parts, as a call reads them. -/
theorem PartsAt.get {w : World} {S : Nat → Prop} {pA : Option Addr} {n c : Nat} {Q : List PartD} (h : PartsAt w S (.slice pA n c) Q) {k : Nat} {q : PartD} (hk : Q[k]? = some q) :
    n = Q.length ∧ ∃ bl off qv, pA = some ⟨bl, off, none⟩ ∧ w.cell? ⟨bl, off + k * 2, none⟩ = some (.int .i64 q.sym) ∧ w.cell? ⟨bl, off + k * 2 + 1, none⟩ = some qv ∧ RdS w S qv q.path := by
  obtain ⟨A, c2, e, h1⟩ := h
  injection e with e1 e3 e2
  subst e1; subst e2
  obtain ⟨hl, rfl⟩ := List.getElem?_eq_some_iff.1 hk
  obtain ⟨bl, off, rfl, _, hc⟩ := h1 (by omega)
  obtain ⟨c0, qv, c1, hq⟩ := hc k hl
  exact ⟨e3, bl, off, qv, rfl, c0, c1, hq⟩

set_option maxHeartbeats 1000000 in
theorem rarity2_any (w : World) (v : Value) (L : List Sym) (h : SymRd w v L) (hL : ∀ x ∈ L, 0 ≤ x.arity ∧ x.arity ≤ 6) (n : Int) (hn : n < L.length) (qv : Value) :
    Calls Try.prog 67 #[v, .agg #[.int .i64 n, qv]] w fun e w' => e = .returned (.int .i64 (arN L n)) ∧ Same w w' := by
  obtain ⟨A, c, rfl, hA⟩ := h
  by_cases h0 : n < 0
  · have e0 : arN L n = 0 := by unfold arN; rw [if_pos h0]
    rw [e0]
    clear e0 hA
    go_enter Try.func67, Try.ntmps67
    go_wp2_with fail
    go_ret
    exact ⟨rfl, (Turned.refl _ _).alloc _⟩
  · obtain ⟨k, rfl⟩ : ∃ k : Nat, n = (k : Int) := ⟨n.toNat, by omega⟩
    have hk : k < L.length := by omega
    have e0 : (L[k]'hk).arity = (arN L (k : Int) : Int) := by
      rw [arN_at (List.getElem?_eq_getElem hk)]
      have := hL (L[k]'hk) (List.getElem_mem _)
      omega
    obtain ⟨bl, off, rfl, hc⟩ := hA (by omega)
    obtain ⟨d0, d1, d2⟩ := hc k hk
    rw [e0] at d1
    have hbl := World.block_lt_of_cell? _ _ d1
    simp only at hbl
    have hk0 : (0 : Int) ≤ k := by omega
    clear hA hc e0 d0 d2 hk
    obtain ⟨ar, har⟩ : ∃ ar, ar = arN L (k : Int) := ⟨_, rfl⟩
    rw [← har] at d1 ⊢
    clear har h0
    go_enter Try.func67, Try.ntmps67
    go_wp2_with fail
    go_ret
    exact ⟨rfl, (Turned.refl _ _).alloc _⟩

set_option maxHeartbeats 2000000 in
theorem rend2_any (w : World) (v : Value) (L : List Sym) (h : SymRd w v L) (hL : ∀ x ∈ L, 0 ≤ x.arity ∧ x.arity ≤ 6) (S : Nat → Prop) (pv : Value) (Q : List PartD) (hQ : PartsAt w S pv Q) (hs : ∀ q ∈ Q, q.sym < L.length) (hlen : Q.length ≤ 4398046511104) (p : Nat) (hp : p ≤ Q.length) :
    Calls Try.prog 66 #[v, pv, .int .i64 p] w fun e w' => e = .returned (.int .i64 (endP L (Q.map (·.sym)) p)) ∧ Same w w' := by
  have HS := Lib.hid h; have HL := Lib.hid hL; have HQ := Lib.hid hQ; have HSy := Lib.hid hs
  obtain ⟨pA, pc, rfl, _⟩ := hQ
  obtain ⟨E, hE⟩ : ∃ E, E = endP L (Q.map (·.sym)) p := ⟨_, rfl⟩
  have HE := Lib.hid hE
  rw [← hE]
  clear hL hE h hs
  go_enter Try.func66, Try.ntmps66
  go_wp2_with fail
  go_loopw [2, 7] (fun iv wv wr => ∃ k wa : Nat, p ≤ k ∧ k ≤ Q.length ∧ wa ≤ 6 * k + 1 ∧ iv = .int .i64 k ∧ wv = .int .i64 wa ∧ Hid (Same w wr ∧ E = if fullF L wa ((Q.map (·.sym)).drop k) then ((k + consF L wa ((Q.map (·.sym)).drop k) : Nat) : Int) else -1)) (fun iv wv _ => Q.length + 1 - (intOf iv).toNat)
  case atStart => exact ⟨p, 1, Nat.le_refl _, hp, by omega, rfl, rfl, Turned.refl _ _, HE.out⟩
  case round =>
    obtain ⟨k, wa, hk1, hk2, hwa, rfl, rfl, HV⟩ := hrel
    cases wa with
    | zero =>
      have HF : Hid (E = k) := by have h1 := HV.out.2; rw [consF_zero] at h1; unfold Hid; simpa [fullF] using h1
      go_wp2_with fail
      go_ret
      exact ⟨by rw [HF.out]; rfl, HV.out.1⟩
    | succ wa =>
      have hw0 : (0 : Int) < ((wa + 1 : Nat) : Int) := by omega
      by_cases hlt : k < Q.length
      · have hk0 : (0 : Int) ≤ k := by omega
        have hk3 : (k : Int) < Q.length := by omega
        have hx0 : Q[k]? = some (Q[k]'hlt) := List.getElem?_eq_getElem hlt
        have hsl := HSy.out (Q[k]'hlt) (List.getElem_mem _)
        have hdr : (Q.map (·.sym)).drop k = (Q[k]'hlt).sym :: (Q.map (·.sym)).drop (k + 1) := by
          rw [List.drop_eq_getElem_cons (by simpa using hlt)]; simp
        obtain ⟨⟨sy, pth⟩, hx⟩ : ∃ x, x = Q[k]'hlt := ⟨_, rfl⟩
        rw [← hx] at hx0 hsl hdr
        obtain ⟨_, bl, off, qv, rfl, c0, c1, _⟩ := (HQ.out.same HV.out.1).get hx0
        simp only at c0 hsl
        have HSl := Lib.hid hsl
        have HN : Hid (E = if fullF L (wa + arN L sy) ((Q.map (·.sym)).drop (k + 1)) then ((k + 1 + consF L (wa + arN L sy) ((Q.map (·.sym)).drop (k + 1)) : Nat) : Int) else -1) := by
          have h1 := HV.out.2
          rw [hdr] at h1
          simp only [fullF, consF] at h1
          unfold Hid
          rw [h1, show k + 1 + consF L (wa + arN L sy) ((Q.map (·.sym)).drop (k + 1)) = k + (1 + consF L (wa + arN L sy) ((Q.map (·.sym)).drop (k + 1))) by omega]
          rfl
        have HSr := Lib.hid (HS.out.same HV.out.1)
        have HAr := Lib.hid (arN_le HL.out sy)
        clear hx0 hx hdr hsl
        go_wp2_with fail
        refine (rarity2_any _ v L HSr.out HL.out sy HSl.out qv).mono ?_
        rintro e w1 ⟨rfl, hs1⟩
        have HS1 : Hid (Same w w1) := HV.out.1.trans hs1 (fun _ h => h.elim)
        obtain ⟨ar, har⟩ : ∃ ar, ar = arN L sy := ⟨_, rfl⟩
        rw [← har] at HN HAr ⊢
        have har6 : ar ≤ 6 := HAr.out
        clear har hs1 c0 c1
        go_wp2_with fail
        go_roundw
        case rel => exact ⟨k + 1, wa + ar, by omega, by omega, by omega, by go_num, by congr 1, HS1.out, HN.out⟩
        case measure => simp [intOf]; omega
      · have hkk : k = Q.length := by omega
        subst hkk
        have HF : Hid (E = -1) := by
          have h1 := HV.out.2
          rw [List.drop_eq_nil_of_le (by simp)] at h1
          unfold Hid; simpa [fullF] using h1
        go_wp2_with fail
        go_ret
        exact ⟨by rw [HF.out]; rfl, HV.out.1⟩
end Go.Proofs.Yteohhiefchoamaa

namespace Go.Proofs.Yteohhiefchoamaa
open Go.RowKit

noncomputable def leadsF (K : List Nd) (a : Int) (p : List Int) : Int := if 0 ≤ a ∧ a < K.length then leadF K (resF K a.toNat) p else -1
theorem argF_neg (K : List Nd) (n : Int) : argF K (-1) n = -1 := by
  unfold argF ndF
  rw [if_neg (by omega)]
theorem leadF_neg (K : List Nd) : ∀ p : List Int, leadF K (-1) p = -1
  | [] => rfl
  | n :: p => by
    show leadF K (argF K (-1) n) p = -1
    rw [argF_neg]
    exact leadF_neg K p
theorem leadF_cons (K : List Nd) (a n : Int) (p : List Int) : leadF K a (n :: p) = leadF K (argF K a n) p := rfl
theorem ndF_res {K : List Nd} {c : Nat} {nd : Nd} (hc : Res K c c) (hx : K[c]? = some nd) : ndF K c = some nd := by
  have hl := hc.from_lt
  unfold ndF
  rw [if_pos (by omega), Int.toNat_natCast, resF_eq hc, hx]
theorem argF_out {K : List Nd} {c : Nat} {nd : Nd} {n : Int} (hc : Res K c c) (hx : K[c]? = some nd) (hn : n < 0 ∨ (nd.args.length : Int) ≤ n) : argF K c n = -1 := by
  unfold argF
  rw [ndF_res hc hx]
  simp only
  by_cases h0 : 0 ≤ n
  · rw [if_pos h0, List.getElem?_eq_none (by omega)]
  · rw [if_neg h0]
theorem argF_at {K : List Nd} {c m t : Nat} {nd : Nd} (hc : Res K c c) (hx : K[c]? = some nd) (hm : nd.args[m]? = some (t : Int)) : argF K c m = resF K t := by
  unfold argF
  rw [ndF_res hc hx]
  simp only
  rw [if_pos (by omega), Int.toNat_natCast, hm]
  rfl
theorem Res.self {K : List Nd} {a c : Nat} (h : Res K a c) : Res K c c := by
  obtain ⟨hl, hp⟩ := h.lt
  exact .here hl hp

set_option maxHeartbeats 4000000 in
theorem rleads_any (w : World) (r : Nat) (room : Int) (u : Value) (K : List Nd) (h : RHp w r room u K) (hr : Ranked K) (ha6 : ∀ x ∈ K, x.args.length ≤ 6) (a : Int) (pv : Value) (p : List Int) (hR : Rd w pv p) (hl : p.length ≤ 17592186044416) :
    Calls Try.prog 58 #[.pointer (some ⟨r, 0, none⟩), .int .i64 a, pv] w fun e w' => e = .returned (.int .i64 (leadsF K a p)) ∧ Same w w' := by
  have H := Lib.hid h; have HR := Lib.hid hr; have HA6 := Lib.hid ha6; have HP := Lib.hid hR
  obtain ⟨pA, pc, rfl, _⟩ := hR
  by_cases ha : 0 ≤ a ∧ a < (K.length : Int)
  · obtain ⟨j, rfl⟩ : ∃ j : Nat, a = (j : Int) := ⟨a.toNat, by omega⟩
    have hj : j < K.length := by omega
    obtain ⟨c0, hc0⟩ := hr.res j hj
    have HE : Hid (leadsF K j p = leadF K c0 p) := by unfold Hid leadsF; rw [if_pos ha, Int.toNat_natCast, resF_eq hc0]
    have HC0 := Lib.hid hc0.self; have HJ := Lib.hid hj
    have HRs : Hid (Calls Try.prog 57 #[.pointer (some ⟨r, 0, none⟩), .int .i64 j] w fun e w' => e = .returned (.tuple #[.int .i64 c0, .int .i64 0]) ∧ w = w') := by
      have h1 := rresolve_some w r room u K h hr j hj
      rwa [resF_eq hc0] at h1
    clear h hr ha6 ha hc0 hj
    go_enter Try.func58, Try.ntmps58
    go_wp2_with fail
    refine HRs.out.mono ?_
    rintro e w1 ⟨rfl, rfl⟩
    go_wp2_with fail
    go_loopw [1, 8] (fun av iv wr => ∃ m c : Nat, m ≤ p.length ∧ iv = .int .i64 m ∧ av = .int .i64 c ∧ Hid (Same w wr ∧ Res K c c ∧ leadF K c (p.drop m) = leadF K c0 p)) (fun _ iv _ => p.length - (intOf iv).toNat)
    case atStart => exact ⟨0, c0, Nat.zero_le _, rfl, rfl, Turned.refl _ _, HC0.out, rfl⟩
    case round =>
      obtain ⟨m, c, hm, rfl, rfl, HV⟩ := hrel
      rename World => w2
      by_cases hlt : m < p.length
      · have hcl := HV.out.2.1.from_lt
        have hx0 : K[c]? = some (K[c]'hcl) := List.getElem?_eq_getElem hcl
        have hla := HA6.out (K[c]'hcl) (List.getElem_mem _)
        obtain ⟨⟨sy, ar, mk, po, tt⟩, hx⟩ : ∃ x, x = K[c]'hcl := ⟨_, rfl⟩
        rw [← hx] at hx0 hla
        simp only at hla
        obtain ⟨bl, off, c', aA, ac, e, d0, d1, d2, d3, d4, hRa, _⟩ := H.out.rd.get HV.out.1 c _ hx0
        have hb1 := (H.out.same HV.out.1).blk.cell 1
        rw [e] at hb1
        simp at hb1
        simp only at d0 d1 d2 d3 d4 hRa
        obtain ⟨A2, c2, e2, hA⟩ := HP.out.same_ HV.out.1
        injection e2 with e3 _ e4
        subst e3; subst e4
        obtain ⟨pbl, poff, rfl, hpc⟩ := hA (by omega)
        have hd := hpc m hlt
        have hdr : p.drop m = p[m] :: p.drop (m + 1) := List.drop_eq_getElem_cons hlt
        obtain ⟨n, hn⟩ : ∃ n, n = p[m] := ⟨_, rfl⟩
        rw [← hn] at hd hdr
        have HX := Lib.hid hx0; have HRa := Lib.hid hRa; have HDr := Lib.hid hdr
        have HV2 : Hid (Same w w2 ∧ Res K c c ∧ leadF K (argF K c n) (p.drop (m + 1)) = leadF K c0 p) := ⟨HV.out.1, HV.out.2.1, by rw [← leadF_cons, ← HDr.out]; exact HV.out.2.2⟩
        obtain ⟨an, han⟩ : ∃ an, an = ar.length := ⟨_, rfl⟩
        have HAn := Lib.hid han
        rw [← han] at d1 hla
        have hc0 : (0 : Int) ≤ c := by omega
        have hc1 : (c : Int) < K.length := by omega
        have hm0 : (0 : Int) ≤ m := by omega
        have hm1 : (m : Int) < p.length := by omega
        have HCl := Lib.hid hcl
        clear hx0 hx hcl hRa e hA hpc hn hdr han HV
        have HS3 : Hid (Same w (w2.alloc (.cells #[.int .i64 sy, .slice aA an ac, .int .i64 mk, .bool po, .int .i64 tt] 53))) := HV2.out.1.alloc _
        have hpl := World.block_lt_of_cell? _ _ hd
        go_upto_region 8 with fail
        have HB3 : Hid (Blk (w2.alloc (.cells #[.int .i64 sy, .slice aA an ac, .int .i64 mk, .bool po, .int .i64 tt] 53)) w2.heap.size 53 #[.int .i64 sy, .slice aA an ac, .int .i64 mk, .bool po, .int .i64 tt]) := Blk.new w2 53 _
        have hd3 : (w2.alloc (.cells #[.int .i64 sy, .slice aA an ac, .int .i64 mk, .bool po, .int .i64 tt] 53)).cell? ⟨pbl, poff + m, none⟩ = some (.int .i64 n) := (((Turned.refl (fun _ => False) w2).alloc _).cell (p := ⟨pbl, poff + m, none⟩) hpl (fun h => h)).trans hd
        obtain ⟨w3, hw3⟩ : ∃ w3, w3 = w2.alloc (.cells #[.int .i64 sy, .slice aA an ac, .int .i64 mk, .bool po, .int .i64 tt] 53) := ⟨_, rfl⟩
        obtain ⟨nb, hnb0⟩ : ∃ nb, nb = w2.heap.size := ⟨_, rfl⟩
        rw [← hw3] at HS3 HB3 hd3 ⊢
        rw [← hnb0] at HB3 ⊢
        clear hw3 hnb0 hpl hd d0 d1 d2 d3 d4 hb1
        obtain ⟨n0, n1, n2, n3, n4⟩ := HB3.out.five
        clear n0 n2 n3 n4
        have hnl := HB3.out.lt
        by_cases hn0 : n < 0
        · have HEn : Hid (leadsF K j p = -1) := by
            rw [HE.out, ← HV2.out.2.2, argF_out HV2.out.2.1 HX.out (.inl hn0)]
            exact leadF_neg K _
          have hnb : decide (n < 0) = true := decide_eq_true hn0
          go_quiet (fail)
          go_wp2_with fail
          go_ret
          exact ⟨by rw [HEn.out]; rfl, HS3.out.drewN _⟩
        · have hnb : decide (n < 0) = false := decide_eq_false hn0
          obtain ⟨q, rfl⟩ : ∃ q : Nat, n = (q : Int) := ⟨n.toNat, by omega⟩
          by_cases hq : an ≤ q
          · have HEn : Hid (leadsF K j p = -1) := by
              rw [HE.out, ← HV2.out.2.2, argF_out HV2.out.2.1 HX.out (.inr (by simp only; rw [← HAn.out]; omega))]
              exact leadF_neg K _
            have hnb2 : decide ((q : Int) ≥ (an : Int)) = true := decide_eq_true (by omega)
            have hnb3 : decide (an ≤ q) = true := decide_eq_true hq
            go_quiet (fail)
            go_wp2_with fail
            go_ret
            exact ⟨by rw [HEn.out]; rfl, HS3.out.drewN _⟩
          · have hql : q < ar.length := by rw [← HAn.out]; omega
            have hpo : po = false := by
              obtain ⟨hl2, hp2⟩ := HV2.out.2.1.lt
              have h5 := HX.out
              rw [List.getElem?_eq_getElem hl2] at h5
              injection h5 with h5
              rw [h5] at hp2
              exact hp2
            obtain ⟨t, ht, htl⟩ := args_in HR.out HX.out hpo (ar[q]) (List.getElem_mem _)
            obtain ⟨A5, c5, e5, hA5⟩ := HRa.out.same_ HS3.out
            injection e5 with e6 e8 e7
            clear e8
            subst e6; subst e7
            obtain ⟨abl, aoff, rfl, hac⟩ := hA5 (by omega)
            have ha := hac q hql
            rw [ht] at ha
            have hnb2 : decide ((q : Int) ≥ (an : Int)) = false := decide_eq_false (by omega)
            have hnb3 : decide (an ≤ q) = false := decide_eq_false hq
            have HArg : Hid (argF K c q = resF K t) := argF_at HV2.out.2.1 HX.out (by rw [List.getElem?_eq_getElem hql, ht])
            obtain ⟨c2, hc2⟩ := HR.out.res t htl
            have HC2 := Lib.hid hc2
            have HTl := Lib.hid htl
            have HN : Hid (Res K c2 c2 ∧ leadF K (c2 : Int) (p.drop (m + 1)) = leadF K c0 p) := ⟨hc2.self, by rw [← HV2.out.2.2, HArg.out, resF_eq hc2]⟩
            have hq0 : (0 : Int) ≤ q := by omega
            have hq1 : (q : Int) < an := by omega
            have HSn : Hid (∀ n, Same w (w3.drewN n)) := fun n => HS3.out.drewN n
            have HRv : Hid (∀ W, Same w W → Calls Try.prog 57 #[.pointer (some ⟨r, 0, none⟩), .int .i64 t] W fun e w' => e = .returned (.tuple #[.int .i64 c2, .int .i64 0]) ∧ w' = W) := fun W hW => by
              have h1 := rresolve_some W r room u K (H.out.same hW) HR.out t HTl.out
              rw [resF_eq HC2.out] at h1
              exact h1.mono fun _ _ h => ⟨h.1, h.2.symm⟩
            clear hql hpo ht htl hA5 hac hc2 hq hn0
            go_quiet (fail)
            obtain ⟨w4, hw4⟩ : ∃ w4, w4 = w3.drewN nq := ⟨_, rfl⟩
            have HS4 : Hid (Same w w4) := by rw [hw4]; exact HS3.out.drewN nq
            have n1' : w4.cell? ⟨nb, 1, none⟩ = some (.slice (some ⟨abl, aoff, none⟩) an ac) := by rw [hw4]; exact n1
            have hd4 : w4.cell? ⟨pbl, poff + m, none⟩ = some (.int .i64 q) := by rw [hw4]; exact hd3
            have ha4 : w4.cell? ⟨abl, aoff + q, none⟩ = some (.int .i64 t) := by rw [hw4]; exact ha
            have hnl4 : nb < w4.heap.size := by rw [hw4]; exact hnl
            rw [← hw4]
            clear hw4 n1 hd3 ha hnl HSn
            go_wp2_with fail
            go_quiet ((go_at_call 57; exact Calls.quiet_of_same (HRv.out _ (by exact HS4.out.drewN _))))
            go_wp2_with fail
            go_roundw
            case rel => exact ⟨m + 1, c2, by omega, by go_num, rfl, HS4.out.drewN _, HN.out⟩
            case measure => simp [intOf]; omega
      · have hmm : m = p.length := by omega
        subst hmm
        have HEn : Hid (leadsF K j p = c) := by
          rw [HE.out, ← HV.out.2.2, List.drop_length]; rfl
        go_wp2_with fail
        go_ret
        exact ⟨by rw [HEn.out]; rfl, HV.out.1⟩
  · have HE : Hid (leadsF K a p = -1) := by unfold Hid leadsF; rw [if_neg ha]
    have ha2 : a < 0 ∨ (K.length : Int) ≤ a := by omega
    clear h ha
    go_enter Try.func58, Try.ntmps58
    go_wp2_with fail
    refine (rresolve_bad _ r room u K H.out a ha2).mono ?_
    rintro e w1 ⟨rfl, rfl⟩
    go_wp2_with fail
    go_ret
    exact ⟨by rw [HE.out]; rfl, Turned.refl _ _⟩

theorem leadsF_one {K : List Nd} (hr : Ranked K) (a n : Int) : leadsF K a [n] = argF K a n := by
  unfold leadsF
  by_cases ha : 0 ≤ a ∧ a < (K.length : Int)
  · rw [if_pos ha]
    obtain ⟨c, hc⟩ := hr.res a.toNat (by omega)
    show argF K (resF K a.toNat) n = argF K a n
    rw [resF_eq hc]
    have e : ndF K c = ndF K a := by
      obtain ⟨hl, _⟩ := hc.lt
      unfold ndF
      rw [if_pos (by omega), if_pos ha, Int.toNat_natCast, resF_eq hc, resF_eq hc.self]
    unfold argF
    rw [e]
  · rw [if_neg ha]
    unfold argF ndF
    rw [if_neg ha]

theorem rarg_any (w : World) (r : Nat) (room : Int) (u : Value) (K : List Nd) (h : RHp w r room u K) (hr : Ranked K) (ha6 : ∀ x ∈ K, x.args.length ≤ 6) (a n : Int) :
    Calls Try.prog 23 #[.pointer (some ⟨r, 0, none⟩), .int .i64 a, .int .i64 n] w fun e w' => e = .returned (.int .i64 (argF K a n)) ∧ Same w w' := by
  have H := Lib.hid h; have HR := Lib.hid hr; have HA6 := Lib.hid ha6
  have HS0 : Hid (Same w (w.alloc (.cells #[.int .i64 n] 3))) := (Turned.refl _ _).alloc _
  clear h hr ha6
  go_enter Try.func23, Try.ntmps23
  go_wp2_with fail
  refine (rleads_any _ r room u K (H.out.same HS0.out) HR.out HA6.out a _ [n] (rd_lit (P := [n]) (Blk.new w 3 _)) (by simp)).mono ?_
  rintro e w1 ⟨rfl, hs1⟩
  rw [leadsF_one HR.out]
  have HS1 : Hid (Same w w1) := HS0.out.trans hs1 (fun _ h => h.elim)
  clear hs1
  go_wp2_with fail
  go_ret
  exact ⟨rfl, HS1.out⟩

set_option maxHeartbeats 1000000 in
theorem rhead_any (w : World) (r : Nat) (room : Int) (u : Value) (K : List Nd) (h : RHp w r room u K) (hr : Ranked K) (hok : ∀ x ∈ K, NodeOk x) (a : Int) :
    Calls Try.prog 21 #[.pointer (some ⟨r, 0, none⟩), .int .i64 a] w fun e w' => e = .returned (.tuple #[.int .i64 (headF K a).1, .bool (headF K a).2]) ∧ Same w w' := by
  have H := Lib.hid h; have HR := Lib.hid hr; have HOk := Lib.hid hok
  by_cases ha : 0 ≤ a ∧ a < (K.length : Int)
  · obtain ⟨j, rfl⟩ : ∃ j : Nat, a = (j : Int) := ⟨a.toNat, by omega⟩
    have hj : j < K.length := by omega
    obtain ⟨c, hc⟩ := hr.res j hj
    obtain ⟨hcl, _⟩ := hc.lt
    have hx0 : K[c]? = some (K[c]'hcl) := List.getElem?_eq_getElem hcl
    have hnok := hok (K[c]'hcl) (List.getElem_mem _)
    have HE : Hid (headF K j = ((K[c]'hcl).sym, (K[c]'hcl).mark != 0)) := by
      unfold Hid headF ndF
      rw [if_pos ha, Int.toNat_natCast, resF_eq hc, hx0]
    have HRs : Hid (Calls Try.prog 57 #[.pointer (some ⟨r, 0, none⟩), .int .i64 j] w fun e w' => e = .returned (.tuple #[.int .i64 c, .int .i64 0]) ∧ w = w') := by
      have h1 := rresolve_some w r room u K h hr j hj
      rwa [resF_eq hc] at h1
    obtain ⟨⟨sy, ar, mk, po, tt⟩, hx⟩ : ∃ x, x = K[c]'hcl := ⟨_, rfl⟩
    rw [← hx] at hx0 hnok HE
    obtain ⟨bl, off, c', aA, ac, e, d0, d1, d2, d3, d4, hRa, _⟩ := h.rd.get (Turned.refl _ w) c _ hx0
    have hb1 := h.blk.cell 1
    rw [e] at hb1
    simp at hb1
    simp only at d0 d2
    have hmk : 0 ≤ mk := hnok.mk0
    have hc0 : (0 : Int) ≤ c := by omega
    have hc1 : (c : Int) < K.length := by omega
    clear h hr hok ha hx0 hnok hx d1 d3 d4 hRa e hj
    have HE2 : Hid (headF K j = (sy, decide (mk > 0))) := by
      rw [HE.out]
      show (sy, mk != 0) = (sy, decide (mk > 0))
      by_cases h0 : mk = 0
      · subst h0; rfl
      · have h1 : (mk != 0) = true := by simpa using h0
        have h2 : decide (mk > 0) = true := decide_eq_true (by omega)
        rw [h1, h2]
    rw [HE2.out]
    go_enter Try.func21, Try.ntmps21
    go_wp2_with fail
    refine HRs.out.mono ?_
    rintro e w1 ⟨rfl, rfl⟩
    go_wp2_with fail
    go_quiet (fail)
    go_wp2_with fail
    go_ret2
    exact ⟨rfl, (Turned.refl _ _).drewN _⟩
  · have HE : Hid (headF K a = (-1, false)) := by unfold Hid headF ndF; rw [if_neg ha]
    have ha2 : a < 0 ∨ (K.length : Int) ≤ a := by omega
    clear h ha
    rw [HE.out]
    go_enter Try.func21, Try.ntmps21
    go_wp2_with fail
    refine (rresolve_bad _ r room u K H.out a ha2).mono ?_
    rintro e w1 ⟨rfl, rfl⟩
    go_wp2_with fail
    go_ret2
    exact ⟨rfl, Turned.refl _ _⟩
end Go.Proofs.Yteohhiefchoamaa

namespace Go.Proofs.Yteohhiefchoamaa
open Go.RowKit

theorem res_ext {N : List Nd} (M : List Nd) {a b : Nat} (h : Res N a b) : Res (N ++ M) a b := by
  induction h with
  | here h hp => exact .here (by rw [List.length_append]; omega) (by rw [List.getElem_append_left h]; exact hp)
  | step h hp ht _ ih => exact .step (by rw [List.length_append]; omega) (by rw [List.getElem_append_left h]; exact hp) (by rw [List.getElem_append_left h]; exact ht) ih
theorem resF_ext {N : List Nd} (M : List Nd) (hr : Ranked N) {a : Nat} (ha : a < N.length) : resF (N ++ M) a = resF N a := by
  obtain ⟨b, hb⟩ := hr.res a ha
  rw [resF_eq hb, resF_eq (res_ext M hb)]
def InN (N : List Nd) (a : Int) : Prop := a = -1 ∨ ∃ j : Nat, a = (j : Int) ∧ j < N.length
theorem ndF_ext {N : List Nd} (M : List Nd) (hr : Ranked N) {a : Int} (ha : InN N a) : ndF (N ++ M) a = ndF N a := by
  unfold ndF
  rcases ha with rfl | ⟨j, rfl, hj⟩
  · rw [if_neg (by omega), if_neg (by omega)]
  · rw [if_pos ⟨by omega, by rw [List.length_append]; omega⟩, if_pos ⟨by omega, by omega⟩, Int.toNat_natCast, resF_ext M hr hj]
    obtain ⟨b, hb⟩ := hr.res j hj
    rw [resF_eq hb, List.getElem?_append_left hb.lt.1]
theorem argF_ext {N : List Nd} (M : List Nd) (hr : Ranked N) {a : Int} (ha : InN N a) (n : Int) : argF (N ++ M) a n = argF N a n := by
  unfold argF
  rw [ndF_ext M hr ha]
  cases hnd : ndF N a with
  | none => rfl
  | some nd =>
    simp only
    by_cases hn : 0 ≤ n
    · rw [if_pos hn, if_pos hn]
      cases hd : nd.args[n.toNat]? with
      | none => rfl
      | some d =>
        simp only
        rcases ha with rfl | ⟨j, rfl, hj⟩
        · unfold ndF at hnd
          rw [if_neg (by omega)] at hnd
          cases hnd
        · unfold ndF at hnd
          rw [if_pos ⟨by omega, by omega⟩, Int.toNat_natCast] at hnd
          obtain ⟨b, hb⟩ := hr.res j hj
          rw [resF_eq hb] at hnd
          obtain ⟨hl, hp⟩ := hb.lt
          obtain ⟨t, rfl, ht⟩ := args_in hr hnd (by rw [List.getElem?_eq_getElem hl] at hnd; injection hnd with e; rw [← e]; exact hp) d (List.mem_of_getElem? hd)
          rw [Int.toNat_natCast, resF_ext M hr ht]
    · rw [if_neg hn, if_neg hn]
theorem leadF_ext {N : List Nd} (M : List Nd) (hr : Ranked N) : ∀ (p : List Int) {a : Int}, InN N a → leadF (N ++ M) a p = leadF N a p
  | [], _, _ => rfl
  | n :: p, a, ha => by
    rw [leadF_cons, leadF_cons, argF_ext M hr ha]
    exact leadF_ext M hr p (argF_in hr a n)
theorem leadsF_at {N : List Nd} (M : List Nd) (hr : Ranked N) {a : Nat} (ha : a < N.length) (p : List Int) : leadsF (N ++ M) a p = leadF N (resF N a) p := by
  unfold leadsF
  rw [if_pos ⟨by omega, by rw [List.length_append]; omega⟩, Int.toNat_natCast, resF_ext M hr ha]
  obtain ⟨b, hb⟩ := hr.res a ha
  exact leadF_ext M hr p (.inr ⟨resF N a, rfl, by rw [resF_eq hb]; exact hb.lt.1⟩)
theorem leadsF_one_ {N : List Nd} (hr : Ranked N) {a : Nat} (ha : a < N.length) (p : List Int) : leadsF N a p = leadF N (resF N a) p := by
  have h := leadsF_at [] hr ha p
  rwa [List.append_nil] at h

theorem well_cons (L : List Sym) : ∀ (r : List Int) (w k : Nat), Well L w r → k ≤ w → Well L (w - k) (r.drop (consF L k r))
  | r, w, 0, h, _ => by rw [consF_zero]; exact h
  | [], w, k + 1, h, hk => by have : w = 0 := h; omega
  | n :: r, w, k + 1, h, hk => by
    have ih := well_cons L r (w - 1 + arN L n) (k + arN L n) h.2 (by omega)
    simp only [consF]
    rw [Nat.add_comm 1, List.drop_succ_cons, show w - (k + 1) = w - 1 + arN L n - (k + arN L n) from by omega]
    exact ih
theorem well_ne (L : List Sym) {r : List Int} {w : Nat} (h : Well L w r) (hw : 0 < w) : r ≠ [] := by
  rintro rfl
  have : w = 0 := h
  omega
theorem endP_at {L : List Sym} {l : List Int} {p w : Nat} (h : Well L w (l.drop p)) (hw : 0 < w) : endP L l p = ((p + consF L 1 (l.drop p) : Nat) : Int) := by
  unfold endP
  rw [if_pos (fullF_of_well L _ w 1 h hw)]
/-- The answer is at the first place. -/
theorem lay_first (L : List Sym) (base : Nat) (P : List (Int × Int)) (h : Well L 1 (P.map (·.1))) : (layF L base P).1 = [(adrF L base P).getD 0 0] := by
  have h1 := lay_args L base P 0 1
  have h2 := layF_len L base P 1 h
  rw [List.drop_zero, List.take_of_length_le (by omega)] at h1
  have h3 := topsF_len L (P.map (·.1)) 0 1 h
  have h4 := topsF_head L (m := 0) (well_ne L h (by omega))
  have h5 : topsF L (P.map (·.1)) 0 = [0] := by
    match hh : topsF L (P.map (·.1)) 0 with
    | [y] => rw [hh] at h4; simp at h4; rw [hh, h4]
    | [] => rw [hh] at h3; simp at h3
    | _ :: _ :: _ => rw [hh] at h3; simp at h3
  rw [h1, h5]
  rfl

theorem RHeap.apart_at {w w' : World} {r g : Nat} {room : Int} {u : Value} {N : List NV} {cs : Array Value} (h : RHeap w r room u N) (hB : Blk w g 3 cs) (hn : ∀ x ∈ N, ∀ k, x.2.ownBlock = some k → k ≠ g) (ht : Turned (fun k => k = g) w w') : RHeap w' r room u N :=
  ⟨h.blk.turned ht (fun e => Blk.ne_ h.blk hB (by decide) e), World.ownsRow.turned h.own ht (fun k hk e => own_blk_ne h.own hB (by decide) (by rw [hk, e])), fun x hx => World.ownsRow.turned (h.args x hx) ht (fun k hk e => hn x hx k hk e)⟩
/-- Between two rounds: what stands from the place mm on is laid, and the addresses from the place m on lie in a row of their own. -/
structure RbI (w wr : World) (r : Nat) (room : Int) (u : Value) (N : List NV) (L : List Sym) (P : List (Int × Int)) (g q : Nat) (mm m : Nat) (u' : Value) (M : List NV) (T : List Int) : Prop where
  hp : RHeap wr r room u' (N ++ M)
  ms : M.map (·.1) = (layF L N.length (P.drop mm)).2
  tur : Turned (hfoot r u) w wr
  vown : u'.ownBlock = u.ownBlock ∨ ∃ j, u'.ownBlock = some j ∧ w.heap.size ≤ j
  big : w.heap.size ≤ g
  old : ∀ x ∈ N, ∀ k, x.2.ownBlock = some k → k < g
  anew : ∀ x ∈ M, ∀ k, x.2.ownBlock = some k → g < k
  row : Blk wr g 3 (nInts T).toArray
  rlen : T.length = P.length
  rat : ∀ j, m ≤ j → j < P.length → T[j]? = (adrF L N.length P)[j]?
  flt : Blk wr q 80 #[.int .i64 0, .int .i64 0, .int .i64 0, .bool false, .int .i64 0, .int .i64 0]
section
variable {w wr w1 : World} {r : Nat} {room : Int} {u : Value} {N : List NV} {L : List Sym} {P : List (Int × Int)} {g q mm m : Nat} {u' : Value} {M : List NV} {T : List Int}
theorem RbI.sep (h : RbI w wr r room u N L P g q mm m u' M T) : ∀ x ∈ N ++ M, ∀ k, x.2.ownBlock = some k → k ≠ g := by
  intro x hx k hk
  rcases List.mem_append.1 hx with h1 | h1
  · have := h.old x h1 k hk; omega
  · have := h.anew x h1 k hk; omega
theorem RbI.same (h : RbI w wr r room u N L P g q mm m u' M T) (hs : Same wr w1) : RbI w w1 r room u N L P g q mm m u' M T :=
  ⟨h.hp.same hs, h.ms, h.tur.trans hs (fun _ h => h.elim), h.vown, h.big, h.old, h.anew, h.row.turned hs (fun h => h), h.rlen, h.rat, h.flt.turned hs (fun h => h)⟩
/-- A place of a thing that is there already. -/
theorem RbI.skip (h : RbI w wr r room u N L P g q (mm + 1) m u' M T) (hm : mm < P.length) (hn : P[mm].1 < 0) : RbI w wr r room u N L P g q mm m u' M T :=
  ⟨h.hp, by rw [h.ms, lay_skip L N.length hm hn], h.tur, h.vown, h.big, h.old, h.anew, h.row, h.rlen, h.rat, h.flt⟩
/-- An address is set in its place. -/
theorem RbI.put (h : RbI w wr r room u N L P g q mm (m + 1) u' M T) (y : Int) (hy : (adrF L N.length P)[m]? = some y) :
    RbI w (wr.setCell ⟨g, m, none⟩ (.int .i64 y)) r room u N L P g q mm m u' M (T.set m y) := by
  have hB := h.row
  have ht : Turned (fun k => k = g) wr (wr.setCell ⟨g, m, none⟩ (.int .i64 y)) := (Turned.refl (fun k => k = g) wr).setCell (p := ⟨g, m, none⟩) (.inl rfl) _
  refine ⟨h.hp.apart_at hB h.sep ht, h.ms, h.tur.trans ht (fun i hi => .inr (by rw [hi]; exact h.big)), h.vown, h.big, h.old, h.anew, ?_, by rw [List.length_set]; exact h.rlen, ?_, h.flt.turned ht (fun e => Blk.ne_ h.flt hB (by decide) e)⟩
  · have h1 := hB.set_ m (.int .i64 y)
    rwa [nInts_set] at h1
  · intro j h1 h2
    rcases Nat.eq_or_lt_of_le h1 with rfl | h3
    · rw [List.getElem?_set_self (by rw [h.rlen]; exact h2), hy]
    · rw [List.getElem?_set_ne (by omega)]
      exact h.rat j (by omega) h2
/-- A node is appended. -/
theorem RbI.push {va : Option Addr} {nn vc g6 cap : Nat} {w6 : World} {av : Value} {A : List Int} {o : Obj} {x : Int} (h : RbI w wr r room u N L P g q (mm + 1) m (.slice va nn vc) M T) (hnn : nn = (N ++ M).length) (hm : mm < P.length) (hx : x = P[mm].1) (hn : ¬ x < 0) (hA : A = (layF L N.length (P.drop (mm + 1))).1.take (arN L x)) (hav : wr.ownsRow 0 3 1 av A.length (nInts A)) (hnew : ∀ k, av.ownBlock = some k → g < k)
    (hown : w6.ownsRow 0 53 5 (.slice (some ⟨g6, 0, none⟩) (nn + 1) cap) (nn + 1) (nall (N ++ M) ++ ncells (⟨x, A, 0, false, 0⟩, av))) (hgr : (wr.alloc o).grownBy w6 (Value.slice va nn vc).ownBlock) (hat : (Value.slice va nn vc).ownBlock = some g6 ∨ g6 = wr.heap.size + 1) :
    RbI w (w6.setCell ⟨r, 1, none⟩ (.slice (some ⟨g6, 0, none⟩) (nn + 1) cap)) r room u N L P g q mm m (.slice (some ⟨g6, 0, none⟩) (nn + 1) cap) (M ++ [(⟨x, A, 0, false, 0⟩, av)]) T := by
  subst hnn
  have AA := rmake_after (x := ⟨x, A, 0, false, 0⟩) (av := av) (w3 := wr) (o := o) h.hp (Turned.refl _ _) hav hown hgr hat
  refine ⟨by rw [← List.append_assoc]; exact AA.1, ?_, h.tur.trans AA.2.1 (hfoot_old h.vown), hfoot_moved h.vown h.tur.size AA.2.2, h.big, h.old, fun y hy k hk => ?_, h.row.turned AA.2.1 ?_, h.rlen, h.rat, h.flt.turned AA.2.1 ?_⟩
  · rw [List.map_append, h.ms, lay_node L N.length hm (by rw [← hx]; exact hn), ← hx, ← hA]
    rfl
  · rcases List.mem_append.1 hy with h1 | h1
    · exact h.anew y h1 k hk
    · obtain rfl : y = _ := by simpa using h1
      exact hnew k hk
  · rintro (e | e)
    · exact Blk.ne_ h.row h.hp.blk (by decide) e
    · exact own_blk_ne h.hp.own h.row (by decide) e
  · rintro (e | e)
    · exact Blk.ne_ h.flt h.hp.blk (by decide) e
    · exact own_blk_ne h.hp.own h.flt (by decide) e
end
def RBRes (w : World) (bad : Option (Int × Int × Int)) (lay : List Int × List Nd) (r : Nat) (room : Int) (u : Value) (N : List NV) (e : Ending) (w' : World) : Prop :=
  (∃ c i y, bad = some (c, i, y) ∧ e = .returned (.tuple #[.int .i64 0, fl c i y]) ∧ Same w w') ∨
  (∃ u' M a, bad = none ∧ lay.1 = [a] ∧ e = .returned (.tuple #[.int .i64 a, fl 0 0 0]) ∧ RHeap w' r room u' (N ++ M) ∧ M.map (·.1) = lay.2 ∧ Turned (hfoot r u) w w' ∧ (u'.ownBlock = u.ownBlock ∨ ∃ j, u'.ownBlock = some j ∧ w.heap.size ≤ j) ∧ ∀ x ∈ M, ∀ k, x.2.ownBlock = some k → w.heap.size ≤ k)
def RBuildRes (w : World) (L : List Sym) (r : Nat) (room : Int) (u : Value) (N : List NV) (R : List (List PartD)) (rule node : Int) (e : Ending) (w' : World) : Prop :=
  RBRes w (buildBad L (N.map (·.1)) room R rule node) (layF L N.length (buildP (N.map (·.1)) R rule node)) r room u N e w'
theorem lay_six {L : List Sym} (hL : ∀ x ∈ L, 0 ≤ x.arity ∧ x.arity ≤ 6) (base : Nat) : ∀ P : List (Int × Int), ∀ x ∈ (layF L base P).2, x.args.length ≤ 6
  | [], x, h => by simp [layF] at h
  | (n, h) :: r, x, hx => by
    have ih := lay_six hL base r
    by_cases hn : n < 0
    · rw [layF_cons_neg L base hn] at hx
      exact ih x hx
    · rw [layF_cons_pos L base hn] at hx
      rcases List.mem_append.1 hx with h1 | h1
      · exact ih x h1
      · obtain rfl : x = _ := by simpa using h1
        have := arN_le hL n
        simp only [List.length_take]
        omega
end Go.Proofs.Yteohhiefchoamaa

namespace Go.Proofs.Yteohhiefchoamaa
open Go.RowKit
attribute [local go_sem ↓] Go.wp_at_zero Go.wp_at_succ

theorem boxes_new (w : World) (c : Value) (cs : Array Value) (_h : c = .agg cs) : Blk ((w.alloc (.cells cs 39)).alloc (.cells #[.int .i64 0, .int .i64 0, .int .i64 0, .bool false, .int .i64 0, .int .i64 0] 80)) (w.heap.size + 1) 80 #[.int .i64 0, .int .i64 0, .int .i64 0, .bool false, .int .i64 0, .int .i64 0] := by
  have h1 := Blk.new (w.alloc (.cells cs 39)) 80 #[.int .i64 0, .int .i64 0, .int .i64 0, .bool false, .int .i64 0, .int .i64 0]
  rwa [World.size_alloc] at h1
set_option maxRecDepth 100000 in
theorem rbuild_rule (w : World) (lu : Value) (p : Option Addr) (va vb vc rv : Value) (S : Nat → Prop) (R : List (List PartD)) (hR : RightsAt w S rv R) (rule node : Int) (h : rule < 0 ∨ (R.length : Int) ≤ rule) :
    Calls Try.prog 38 #[lu, cv va vb vc rv, .pointer p, .int .i64 rule, .int .i64 node] w fun e w' => e = .returned (.tuple #[.int .i64 0, fl 132 0 91]) ∧ Same w w' := by
  obtain ⟨rA, rc, rfl, _⟩ := hR
  have HB0 := Lib.hid (boxes_new w (cv va vb vc (.slice rA R.length rc)) _ rfl)
  have HS0 : Hid (Same w ((w.alloc (.cells #[va, vb, vc, .slice rA R.length rc] 39)).alloc (.cells #[.int .i64 0, .int .i64 0, .int .i64 0, .bool false, .int .i64 0, .int .i64 0] 80))) := ((Turned.refl _ _).alloc _).alloc _
  by_cases h0 : rule < 0
  all_goals
    first | (have h1 : rule ≥ (R.length : Int) := by omega) | skip
    clear h
    go_enter Try.func38, Try.ntmps38
    go_upto_region 2 with fail
    obtain ⟨w0, hw0⟩ : ∃ w0, w0 = (w.alloc (.cells #[va, vb, vc, .slice rA R.length rc] 39)).alloc (.cells #[.int .i64 0, .int .i64 0, .int .i64 0, .bool false, .int .i64 0, .int .i64 0] 80) := ⟨_, rfl⟩
    obtain ⟨q, hq⟩ : ∃ q, q = w.heap.size + 1 := ⟨_, rfl⟩
    have HQ0 : Hid (w.heap.size ≤ q) := by rw [hq]; exact Nat.le_succ _
    rw [← hw0] at HB0 HS0 ⊢
    rw [← hq] at HB0 ⊢
    clear hw0 hq
    obtain ⟨q0, q1, q2, q3, q4, q5⟩ := HB0.out.six
    have qf := fun i => HB0.out.frozen i
    have ql := HB0.out.lt
    go_wp2_with fail
    have X := set6 HB0.out (.int .i64 132) (.int .i64 0) (.int .i64 91) (.bool false) (.int .i64 0) (.int .i64 0)
    exact bodyPost_ret (results_f2 rfl _ rfl X.1) rfl ⟨rfl, HS0.out.trans X.2 (fun i hi => .inr (by rw [hi]; exact HQ0.out))⟩
set_option maxRecDepth 100000 in
theorem rbuild_node (w : World) (lu : Value) (r : Nat) (room : Int) (u : Value) (K : List Nd) (h : RHp w r room u K) (va vb vc rv : Value) (S : Nat → Prop) (R : List (List PartD)) (hR : RightsAt w S rv R) (k : Nat) (hk : k < R.length) (node : Int) (hn : node < 0 ∨ (K.length : Int) ≤ node) :
    Calls Try.prog 38 #[lu, cv va vb vc rv, .pointer (some ⟨r, 0, none⟩), .int .i64 k, .int .i64 node] w fun e w' => e = .returned (.tuple #[.int .i64 0, fl 132 0 112]) ∧ Same w w' := by
  obtain ⟨rA, rc, rfl, _⟩ := hR
  have HB0 := Lib.hid (boxes_new w (cv va vb vc (.slice rA R.length rc)) _ rfl)
  have HS0 : Hid (Same w ((w.alloc (.cells #[va, vb, vc, .slice rA R.length rc] 39)).alloc (.cells #[.int .i64 0, .int .i64 0, .int .i64 0, .bool false, .int .i64 0, .int .i64 0] 80))) := ((Turned.refl _ _).alloc _).alloc _
  have H := Lib.hid h
  have hk2 : ¬ (k : Int) ≥ R.length := by omega
  have hk3 : ¬ (k : Int) < 0 := by omega
  clear h
  go_enter Try.func38, Try.ntmps38
  go_upto_region 3 with fail
  obtain ⟨w0, hw0⟩ : ∃ w0, w0 = (w.alloc (.cells #[va, vb, vc, .slice rA R.length rc] 39)).alloc (.cells #[.int .i64 0, .int .i64 0, .int .i64 0, .bool false, .int .i64 0, .int .i64 0] 80) := ⟨_, rfl⟩
  obtain ⟨q, hq⟩ : ∃ q, q = w.heap.size + 1 := ⟨_, rfl⟩
  have HQ0 : Hid (w.heap.size ≤ q) := by rw [hq]; exact Nat.le_succ _
  rw [← hw0] at HB0 HS0 ⊢
  rw [← hq] at HB0 ⊢
  clear hw0 hq
  go_wp2_with fail
  refine (rhas_no _ r room u K (H.out.same HS0.out) node hn).mono ?_
  rintro e w1 ⟨rfl, rfl⟩
  obtain ⟨q0, q1, q2, q3, q4, q5⟩ := HB0.out.six
  have qf := fun i => HB0.out.frozen i
  have ql := HB0.out.lt
  go_wp2_with fail
  have X := set6 HB0.out (.int .i64 132) (.int .i64 0) (.int .i64 112) (.bool false) (.int .i64 0) (.int .i64 0)
  exact bodyPost_ret (results_f2 rfl _ rfl X.1) rfl ⟨rfl, HS0.out.trans X.2 (fun i hi => .inr (by rw [hi]; exact HQ0.out))⟩
end Go.Proofs.Yteohhiefchoamaa

namespace Go.Proofs.Yteohhiefchoamaa
open Go.RowKit
attribute [local go_sem ↓] Go.wp_at_zero Go.wp_at_succ

set_option maxRecDepth 100000 in
set_option maxHeartbeats 8000000 in
theorem rbuild_any (w : World) (lu : Value) (L : List Sym) (hlu : w.ownsRow 0 84 3 lu L.length (symCells L)) (hL : ∀ x ∈ L, 0 ≤ x.arity ∧ x.arity ≤ 6) (r : Nat) (room : Int) (u : Value) (N : List NV) (h : RHeap w r room u N) (hr : Ranked (N.map (·.1))) (ha6 : ∀ x ∈ N.map (·.1), x.args.length ≤ 6) (hr4 : room ≤ 4000) (hNr : (N.length : Int) ≤ room)
    (va vb vc rv : Value) (R : List (List PartD)) (hR : RightsAt w (hfoot r u) rv R) (hlen : ∀ Q ∈ R, Q.length ≤ 4398046511104) (hlen2 : ∀ Q ∈ R, ∀ q ∈ Q, q.path.length ≤ 17592186044416) (k node : Nat) (hk : k < R.length) (hnode : node < N.length) :
    Calls Try.prog 38 #[lu, cv va vb vc rv, .pointer (some ⟨r, 0, none⟩), .int .i64 k, .int .i64 node] w fun e w' => RBuildRes w L r room u N R k node e w' := by
  obtain ⟨nd0, hres⟩ := hr.res node (by simpa using hnode)
  obtain ⟨la, lc, rfl, _, _⟩ := own_shape hlu
  have HLu := Lib.hid hlu; have HL := Lib.hid hL; have H := Lib.hid h; have HR := Lib.hid hr; have HA6 := Lib.hid ha6; have HRi := Lib.hid hR; have HNode := Lib.hid hnode; have HRes := Lib.hid hres
  obtain ⟨rA, rc, rfl, hr2⟩ := hR
  obtain ⟨rbl, roff, rfl, _, hrc⟩ := hr2 (by omega)
  obtain ⟨pv, hpv, hQ⟩ := hrc k hk
  have hQl := hlen R[k] (List.getElem_mem _)
  have HPl := Lib.hid (hlen2 R[k] (List.getElem_mem _))
  have hRk : R.getD k [] = R[k] := by simp [List.getD, hk]
  have e1 : buildBad L (N.map (·.1)) room R (k : Int) (node : Int) = rightBad L (N.map (·.1)) room nd0 R[k] := by
    unfold buildBad
    rw [if_neg (by omega), if_neg (by rw [List.length_map]; omega), Int.toNat_natCast, Int.toNat_natCast, resF_eq hres, hRk]
  have e2 : buildP (N.map (·.1)) R (k : Int) (node : Int) = itemsF (N.map (·.1)) nd0 R[k] := by
    unfold buildP
    rw [Int.toNat_natCast, Int.toNat_natCast, resF_eq hres, hRk]
  unfold RBuildRes
  rw [e1, e2]
  clear e1 e2 hRk
  obtain ⟨Q, hQe⟩ : ∃ Q, Q = R[k] := ⟨_, rfl⟩
  rw [← hQe] at hQ hQl HPl
  rw [← hQe]
  have HQ := Lib.hid hQ
  obtain ⟨pA, pc, rfl, _⟩ := hQ
  have HLd : Hid (∀ M p, leadsF (N.map (·.1) ++ M) node p = leadF (N.map (·.1)) nd0 p) := fun M p => by rw [leadsF_at M hr (by simpa using hnode), resF_eq hres]
  have HLd0 : Hid (∀ p, leadsF (N.map (·.1)) node p = leadF (N.map (·.1)) nd0 p) := fun p => by rw [leadsF_one_ hr (by simpa using hnode), resF_eq hres]
  have hrbl := World.block_lt_of_cell? _ _ hpv
  simp only at hrbl
  have hk0 : (0 : Int) ≤ k := by omega
  have hk1 : (k : Int) < R.length := by omega
  have hk2 : ¬ (k : Int) ≥ R.length := by omega
  have hk3 : ¬ (k : Int) < 0 := by omega
  clear hlu hL h hr ha6 hres hr2 hrc hlen hlen2 hQe hnode
  have HB0 : Hid (Blk ((w.alloc (.cells #[va, vb, vc, .slice (some ⟨rbl, roff, none⟩) R.length rc] 39)).alloc (.cells #[.int .i64 0, .int .i64 0, .int .i64 0, .bool false, .int .i64 0, .int .i64 0] 80)) (w.heap.size + 1) 80 #[.int .i64 0, .int .i64 0, .int .i64 0, .bool false, .int .i64 0, .int .i64 0]) := by
    have h1 := Blk.new (w.alloc (.cells #[va, vb, vc, .slice (some ⟨rbl, roff, none⟩) R.length rc] 39)) 80 #[.int .i64 0, .int .i64 0, .int .i64 0, .bool false, .int .i64 0, .int .i64 0]
    rwa [World.size_alloc] at h1
  have HS0 : Hid (Same w ((w.alloc (.cells #[va, vb, vc, .slice (some ⟨rbl, roff, none⟩) R.length rc] 39)).alloc (.cells #[.int .i64 0, .int .i64 0, .int .i64 0, .bool false, .int .i64 0, .int .i64 0] 80))) := ((Turned.refl _ _).alloc _).alloc _
  have HC0 := Lib.hid ((Blk.new w 39 #[va, vb, vc, .slice (some ⟨rbl, roff, none⟩) R.length rc]).alloc (.cells #[.int .i64 0, .int .i64 0, .int .i64 0, .bool false, .int .i64 0, .int .i64 0] 80))
  have c3 := (HC0.out.cell 3).trans rfl
  have hpv0 := (HS0.out.cell (p := ⟨rbl, roff + k, none⟩) hrbl (fun h => h)).trans hpv
  obtain ⟨w0, hw0⟩ : ∃ w0, w0 = (w.alloc (.cells #[va, vb, vc, .slice (some ⟨rbl, roff, none⟩) R.length rc] 39)).alloc (.cells #[.int .i64 0, .int .i64 0, .int .i64 0, .bool false, .int .i64 0, .int .i64 0] 80) := ⟨_, rfl⟩
  have HW0 := Lib.hid hw0
  rw [← hw0] at HB0 HS0 c3 hpv0
  clear hw0 hpv HC0
  go_enter Try.func38, Try.ntmps38
  go_wp2_with (first | rw [← HW0.out])
  refine (rhas_yes _ r room u _ (H.out.same HS0.out).rhp node (by rw [List.length_map]; exact HNode.out)).mono ?_
  rintro e w1 ⟨rfl, rfl⟩
  go_upto_region 6 with fail
  obtain ⟨q, hq⟩ : ∃ q, q = w.heap.size + 1 := ⟨_, rfl⟩
  have HQ0 : Hid (w.heap.size ≤ q) := by rw [hq]; exact Nat.le_succ _
  rw [← hq] at HB0 ⊢
  clear hq c3 hpv0 HW0 hrbl hk0 hk1 hk2 hk3 hk
  have HPs := Lib.hid (HQ.out.same HS0.out)
  go_wp2_with fail
  go_loopw [13, 14] (fun mv iv wr => ∃ j : Nat, j ≤ Q.length ∧ mv = .int .i64 (cntP ((Q.map (·.sym)).take j)) ∧ iv = .int .i64 j ∧ Hid (Same w0 wr ∧ ∀ x ∈ Q.take j, partBad L (N.map (·.1)) nd0 x = none)) (fun _ iv _ => Q.length - (intOf iv).toNat)
  case atStart => exact ⟨0, Nat.zero_le _, rfl, rfl, Turned.refl _ _, fun x hx => by simp at hx⟩
  case round =>
    obtain ⟨j, hj, rfl, rfl, HV⟩ := hrel
    rename World => w2
    have HS2 : Hid (Same w w2) := HS0.out.trans HV.out.1 (fun _ h => h.elim)
    have HB2 := Lib.hid (HB0.out.turned HV.out.1 (fun h => h))
    by_cases hlt : j < Q.length
    · have hx0 : Q[j]? = some (Q[j]'hlt) := List.getElem?_eq_getElem hlt
      have hpl := HPl.out (Q[j]'hlt) (List.getElem_mem _)
      have htk : Q.take (j + 1) = Q.take j ++ [Q[j]'hlt] := List.take_succ_eq_append_getElem hlt
      have hct : cntP ((Q.map (·.sym)).take (j + 1)) = cntP ((Q.map (·.sym)).take j) + (if 0 ≤ (Q[j]'hlt).sym then 1 else 0) := by
        have h1 := cntP_take (Q.map (·.sym)) j (by simpa using hlt)
        rwa [List.getElem_map] at h1
      have hbd : ∀ y, partBad L (N.map (·.1)) nd0 (Q[j]'hlt) = some y → rightBad L (N.map (·.1)) room nd0 Q = some (132, (j : Int), y) := fun y hy => by
        unfold rightBad
        rw [partsBad_at hlt HV.out.2 hy]
      obtain ⟨⟨sy, pth⟩, hx⟩ : ∃ x, x = Q[j]'hlt := ⟨_, rfl⟩
      rw [← hx] at hx0 hpl htk hct hbd
      have HTk := Lib.hid htk; have HBad := Lib.hid hbd; have HPq := Lib.hid hpl
      obtain ⟨_, bl, off, qv, rfl, c0, c1, hqv⟩ := (HPs.out.same HV.out.1).get hx0
      simp only at c0 hct
      obtain ⟨qA, qc, rfl, _⟩ := id hqv
      have HQv := Lib.hid hqv.rd
      have hcn : cntP ((Q.map (·.sym)).take j) ≤ j := by
        unfold cntP
        exact Nat.le_trans (List.length_filter_le _ _) (by rw [List.length_take]; omega)
      obtain ⟨cn, hcne⟩ : ∃ cn, cn = cntP ((Q.map (·.sym)).take j) := ⟨_, rfl⟩
      rw [← hcne] at hct hcn ⊢
      have HCt := Lib.hid hct
      have hj0 : (0 : Int) ≤ j := by omega
      have hj1 : (j : Int) < Q.length := by omega
      have HGood : Hid (partBad L (N.map (·.1)) nd0 ⟨sy, pth⟩ = none → ∀ x ∈ Q.take (j + 1), partBad L (N.map (·.1)) nd0 x = none) := fun hg x hx => by
        rw [HTk.out] at hx
        rcases List.mem_append.1 hx with h1 | h1
        · exact HV.out.2 x h1
        · obtain rfl : x = _ := by simpa using h1
          exact hg
      obtain ⟨q0, q1, q2, q3, q4, q5⟩ := HB2.out.six
      have qf := fun i => HB2.out.frozen i
      have ql := HB2.out.lt
      have HC0 := Lib.hid c0
      clear hx0 hx hqv hct hbd htk hpl hcne
      by_cases hbig : sy ≥ (L.length : Int)
      · have HBd := Lib.hid (HBad.out 14 (by unfold partBad; simp only; rw [if_pos (by omega)]))
        go_wp2_with fail
        have X := set6 HB2.out (.int .i64 132) (.int .i64 j) (.int .i64 14) (.bool false) (.int .i64 0) (.int .i64 0)
        exact bodyPost_ret (results_f2 rfl _ rfl X.1) rfl (.inl ⟨132, j, 14, HBd.out, rfl, HS2.out.trans X.2 (fun i hi => .inr (by rw [hi]; exact HQ0.out))⟩)
      · by_cases hlow : sy < -1
        · have HBd := Lib.hid (HBad.out 0 (by unfold partBad; simp only; rw [if_neg (by omega), if_pos hlow]))
          go_wp2_with fail
          have X := set6 HB2.out (.int .i64 132) (.int .i64 j) (.int .i64 0) (.bool false) (.int .i64 0) (.int .i64 0)
          exact bodyPost_ret (results_f2 rfl _ rfl X.1) rfl (.inl ⟨132, j, 0, HBd.out, rfl, HS2.out.trans X.2 (fun i hi => .inr (by rw [hi]; exact HQ0.out))⟩)
        · by_cases hm1 : sy = -1
          · subst hm1
            have HLv := Lib.hid (HLd0.out pth)
            obtain ⟨lv, hlv⟩ : ∃ lv, lv = leadF (N.map (·.1)) nd0 pth := ⟨_, rfl⟩
            rw [← hlv] at HLv
            have HLe := Lib.hid hlv
            clear hlv
            go_wp2_with fail
            refine (rleads_any w2 r room u _ (H.out.same HS2.out).rhp HR.out HA6.out node _ pth HQv.out HPq.out).mono ?_
            rintro e w3 ⟨rfl, hs3⟩
            rw [HLv.out]
            have HS3 : Hid (Same w w3) := HS2.out.trans hs3 (fun _ h => h.elim)
            have HT3 : Hid (Same w0 w3) := HV.out.1.trans hs3 (fun _ h => h.elim)
            have HB3 := Lib.hid (HB2.out.turned hs3 (fun h => h))
            have c0' := (hs3.cell (p := ⟨bl, off + j * 2, none⟩) (World.block_lt_of_cell? _ _ HC0.out) (fun h => h)).trans HC0.out
            clear q0 q1 q2 q3 q4 q5 qf ql c0 c1 hs3 HC0
            obtain ⟨q0, q1, q2, q3, q4, q5⟩ := HB3.out.six
            have qf := fun i => HB3.out.frozen i
            have ql := HB3.out.lt
            by_cases hneg : lv < 0
            · have HBd := Lib.hid (HBad.out 0 (by unfold partBad; simp only; rw [if_neg (by omega), if_neg (by omega), if_pos ⟨trivial, by rw [← HLe.out]; exact hneg⟩]))
              go_wp2_with fail
              have X := set6 HB3.out (.int .i64 132) (.int .i64 j) (.int .i64 0) (.bool false) (.int .i64 0) (.int .i64 0)
              exact bodyPost_ret (results_f2 rfl _ rfl X.1) rfl (.inl ⟨132, j, 0, HBd.out, rfl, HS3.out.trans X.2 (fun i hi => .inr (by rw [hi]; exact HQ0.out))⟩)
            · have HN : Hid (Same w0 w3 ∧ ∀ x ∈ Q.take (j + 1), partBad L (N.map (·.1)) nd0 x = none) := ⟨HT3.out, HGood.out (by unfold partBad; simp only; rw [if_neg (by omega), if_neg (by omega), if_neg (fun h => hneg (by rw [HLe.out]; exact h.2))])⟩
              have hct : cntP ((Q.map (·.sym)).take (j + 1)) = cn := by have h1 := HCt.out; rwa [if_neg (by decide)] at h1
              rw [show cn = cn + 0 from rfl] at hct
              have HCt2 := Lib.hid hct
              clear hct
              go_wp2_with fail
              go_roundw
              case rel => exact ⟨j + 1, by omega, by rw [HCt2.out]; rfl, by go_num, HN.out⟩
              case measure => simp [intOf]; omega
          · have hm1b : (sy == -1) = false := by rw [beq_eq_false_iff_ne]; exact hm1
            have hpos : sy ≥ 0 := by omega
            have HN : Hid (Same w0 w2 ∧ ∀ x ∈ Q.take (j + 1), partBad L (N.map (·.1)) nd0 x = none) := ⟨HV.out.1, HGood.out (by unfold partBad; simp only; rw [if_neg (by omega), if_neg (by omega), if_neg (fun h => hm1 h.1)])⟩
            have HCt2 : Hid (cntP ((Q.map (·.sym)).take (j + 1)) = cn + 1) := by have h1 := HCt.out; rwa [if_pos (by omega)] at h1
            go_wp2_with fail
            go_roundw
            case rel => exact ⟨j + 1, by omega, by rw [HCt2.out]; go_num, by go_num, HN.out⟩
            case measure => simp [intOf]; omega
    · have hjj : j = Q.length := by omega
      subst hjj
      have hok := HV.out.2
      rw [List.take_length] at hok
      have HPb : Hid (partsBad (partBad L (N.map (·.1)) nd0) 0 Q = none) := partsBad_none hok
      have hsym : ∀ x ∈ Q, x.sym < L.length := by
        intro x hx
        have h1 := hok x hx
        unfold partBad at h1
        by_cases h2 : (L.length : Int) ≤ x.sym
        · rw [if_pos h2] at h1; cases h1
        · omega
      have HSy := Lib.hid hsym
      have hnd0 := HRes.out.lt.1
      have HHd : Hid (∀ x ∈ Q, x.sym < 0 → x.sym = -1 ∧ ∃ t : Nat, leadF (N.map (·.1)) nd0 x.path = (t : Int) ∧ t < N.length) := by
        intro x hx hneg
        have h1 := hok x hx
        unfold partBad at h1
        rw [if_neg (by have := hsym x hx; omega)] at h1
        by_cases h3 : x.sym < -1
        · rw [if_pos h3] at h1; cases h1
        · rw [if_neg h3] at h1
          have h4 : x.sym = -1 := by omega
          refine ⟨h4, ?_⟩
          rcases leadF_in HR.out x.path (nd0 : Int) (.inr ⟨nd0, rfl, hnd0⟩) with h5 | ⟨t, h5, h6⟩
          · rw [if_pos ⟨h4, by rw [h5]; decide⟩] at h1; cases h1
          · exact ⟨t, h5, by simpa using h6⟩
      have HCt : Hid (cntP ((Q.map (·.sym)).take Q.length) = cntP (Q.map (·.sym))) := by unfold Hid; rw [List.take_of_length_le (by simp)]
      rw [HCt.out]
      have HSg := Lib.hid (SymRd.of_own (World.ownsRow.same_ HLu.out HS2.out))
      have HPt := Lib.hid (HPs.out.same HV.out.1)
      have HVs := Lib.hid HV.out.1
      have hcnl : cntP (Q.map (·.sym)) ≤ Q.length := by
        unfold cntP
        exact Nat.le_trans (List.length_filter_le _ _) (by rw [List.length_map]; exact Nat.le_refl _)
      obtain ⟨cn, hcne⟩ : ∃ cn, cn = cntP (Q.map (·.sym)) := ⟨_, rfl⟩
      rw [← hcne] at hcnl ⊢
      have HCn := Lib.hid hcne
      clear hok hsym hnd0 HV hcne HCt hj hlt
      go_wp2_with fail
      refine (rend2_any w2 _ L HSg.out HL.out (hfoot r u) _ Q HPt.out HSy.out hQl 0 (Nat.zero_le _)).mono ?_
      rintro e w3 ⟨rfl, hs3⟩
      have HEn := Lib.hid (endP_whole L (Q.map (·.sym)))
      obtain ⟨en, hen⟩ : ∃ en, en = endP L (Q.map (·.sym)) 0 := ⟨_, rfl⟩
      rw [← hen, List.length_map] at HEn
      rw [← hen]
      have HS3 : Hid (Same w w3) := HS2.out.trans hs3 (fun _ h => h.elim)
      have HB3 := Lib.hid (HB2.out.turned hs3 (fun h => h))
      clear hen hs3
      obtain ⟨q0, q1, q2, q3, q4, q5⟩ := HB3.out.six
      have qf := fun i => HB3.out.frozen i
      have ql := HB3.out.lt
      by_cases hwell : en = (Q.length : Int)
      rotate_left
      · have hwb : (en == (Q.length : Int)) = false := by rw [beq_eq_false_iff_ne]; exact hwell
        have HBd : Hid (rightBad L (N.map (·.1)) room nd0 Q = some (130, 0, 0)) := by
          unfold Hid rightBad; rw [HPb.out]; simp only; rw [if_pos (wellB_not (fun h => hwell (HEn.out.2 h)))]
        go_wp2_with fail
        have X := set6 HB3.out (.int .i64 130) (.int .i64 0) (.int .i64 0) (.bool false) (.int .i64 0) (.int .i64 0)
        exact bodyPost_ret (results_f2 rfl _ rfl X.1) rfl (.inl ⟨130, 0, 0, HBd.out, rfl, HS3.out.trans X.2 (fun i hi => .inr (by rw [hi]; exact HQ0.out))⟩)
      · have HWell := Lib.hid (HEn.out.1 hwell)
        subst hwell
        have HWb := Lib.hid (wellB_of HWell.out)
        have HH3 := Lib.hid (H.out.same HS3.out)
        have b0 : w3.cell? ⟨r, 0, none⟩ = some (.int .i64 room) := (HH3.out.blk.cell 0).trans rfl
        obtain ⟨ua, uc, rfl, _, _⟩ := own_shape H.out.own
        have b1 : w3.cell? ⟨r, 1, none⟩ = some (.slice ua N.length uc) := (HH3.out.blk.cell 1).trans rfl
        have hwr : IntKind.i64.wrap (room - (N.length : Int)) = room - (N.length : Int) := IntWalk.i64_in _ (by omega)
        by_cases hfull : (cn : Int) > room - N.length
        · have HBd : Hid (rightBad L (N.map (·.1)) room nd0 Q = some (131, 0, 111)) := by
            unfold Hid rightBad; rw [HPb.out]; simp only; rw [HWb.out, if_neg (by decide), if_pos]
            rw [List.length_map, ← HCn.out]; omega
          have hfb : decide ((cn : Int) > room - (N.length : Int)) = true := decide_eq_true hfull
          go_wp2_with fail
          go_quiet (fail)
          go_wp2_with fail
          have X := set6 (HB3.out.drewN nq) (.int .i64 131) (.int .i64 0) (.int .i64 111) (.bool false) (.int .i64 0) (.int .i64 0)
          exact bodyPost_ret (results_f2 rfl _ rfl X.1) rfl (.inl ⟨131, 0, 111, HBd.out, rfl, (HS3.out.drewN nq).trans X.2 (fun i hi => .inr (by rw [hi]; exact HQ0.out))⟩)
        · have HGd : Hid (rightBad L (N.map (·.1)) room nd0 Q = none) := by
            unfold Hid rightBad; rw [HPb.out]; simp only; rw [HWb.out, if_neg (by decide), if_neg]
            rw [List.length_map, ← HCn.out]; omega
          have hfb : decide ((cn : Int) > room - (N.length : Int)) = false := decide_eq_false hfull
          go_wp2_with fail
          go_quiet (fail)
          obtain ⟨w4, hw4⟩ : ∃ w4, w4 = w3.drewN nq := ⟨_, rfl⟩
          have HS4 : Hid (Same w w4) := by rw [hw4]; exact HS3.out.drewN nq
          have HB4 : Hid (Blk w4 q 80 #[.int .i64 0, .int .i64 0, .int .i64 0, .bool false, .int .i64 0, .int .i64 0]) := by rw [hw4]; exact HB3.out.drewN nq
          rw [← hw4]
          clear hw4 b0 b1 hwr hfb q0 q1 q2 q3 q4 q5 qf ql
          obtain ⟨i0, hi0, hz0, hz1, hz2⟩ := info_parts info3
          have hmk := fun W => run_make (P := Try.prog) W 26 3 i0 (.int .i64 0) Try.underlying26 hi0 hz0 .i64 .i64 Q.length Q.length (by omega) (by omega) (by rw [hz2]; omega) (by omega)
          simp only [hz1, Int.toNat_natCast, Nat.mul_one] at hmk
          have HI : Hid (Try.prog.info? 3 = some i0 ∧ i0.zero = some (.int .i64 0) ∧ i0.size = 1 ∧ i0.bytes = 8) := ⟨hi0, hz0, hz1, hz2⟩
          clear hi0 hz0 hz1 hz2
          go_upto_region 21 with fail
          have HZ : Hid (Blk (w4.alloc (.cells (madeCells #[.int .i64 0] Q.length) 3)) w4.heap.size 3 (nInts (List.replicate Q.length 0)).toArray) := zeros_blk (Blk.new w4 3 _)
          have HS5 : Hid (Same w (w4.alloc (.cells (madeCells #[.int .i64 0] Q.length) 3))) := HS4.out.alloc _
          have HB5 := Lib.hid (HB4.out.alloc (.cells (madeCells #[.int .i64 0] Q.length) 3))
          have HG : Hid (w.heap.size ≤ w4.heap.size) := HS4.out.size
          obtain ⟨w5, hw5⟩ : ∃ w5, w5 = w4.alloc (.cells (madeCells #[.int .i64 0] Q.length) 3) := ⟨_, rfl⟩
          obtain ⟨g, hg⟩ : ∃ g, g = w4.heap.size := ⟨_, rfl⟩
          rw [← hw5] at HZ HS5 HB5 ⊢
          rw [← hg] at HZ HG ⊢
          clear hw5 hg
          have hmk' : True := trivial
          clear hmk' hmk
          obtain ⟨P, hP⟩ : ∃ P, P = itemsF (N.map (·.1)) nd0 Q := ⟨_, rfl⟩
          have HPe := Lib.hid hP
          have HPlen : Hid (P.length = Q.length) := by unfold Hid; rw [hP]; simp [itemsF]
          have HPfst : Hid (P.map (·.1) = Q.map (·.sym)) := by unfold Hid; rw [hP]; simp [itemsF, List.map_map, Function.comp_def]
          have HPat : Hid (∀ i (h : i < Q.length), P[i]? = some (Q[i].sym, handF (N.map (·.1)) nd0 Q[i])) := fun i h => by rw [hP]; simp [itemsF, h]
          have HPin : Hid (∀ i, ∀ x ∈ P.drop i, x.1 < 0 → ∃ t : Nat, x.2 = (t : Int) ∧ t < N.length) := fun i x hx hn => by
            have hx2 := List.mem_of_mem_drop hx
            rw [hP] at hx2
            obtain ⟨y, hy, rfl⟩ := List.mem_map.1 hx2
            obtain ⟨h1, t, h2, h3⟩ := HHd.out y hy hn
            exact ⟨t, by simp only [handF, if_pos h1]; exact h2, h3⟩
          have hcn2 : (cn : Int) ≤ room - N.length := by omega
          have HSyms : Hid (∀ i, (layF L N.length (P.drop i)).2.length ≤ cn) := fun i => by
            rw [layF_syms]
            have h1 := syms_drop P i
            have h2 : syms P = cn := by
              rw [HCn.out, hP]
              unfold syms cntP itemsF
              rw [List.filter_map, List.filter_map, List.length_map, List.length_map]
              rfl
            omega
          have hQ1 : 0 < Q.length := by
            rcases Nat.eq_zero_or_pos Q.length with h | h
            · have h3 := HWell.out
              rw [List.eq_nil_of_length_eq_zero h] at h3
              simp [Well] at h3
            · exact h
          clear hP
          go_wp2_with fail
          go_loopw [16] (fun i wr => ∃ m : Nat, m ≤ Q.length ∧ i = .int .i64 ((m : Int) - 1) ∧ Hid (∃ u' M T, RbI w wr r room (.slice ua N.length uc) N L P g q m m u' M T)) (fun i _ => (intOf i + 1).toNat)
          case atStart =>
            refine ⟨Q.length, Nat.le_refl _, rfl, _, [], List.replicate Q.length 0, ⟨by rw [List.append_nil]; exact H.out.same HS5.out, ?_, HS5.out.mono (fun _ h => h.elim), .inl rfl, HG.out, fun x hx k hk => Nat.lt_of_lt_of_le (own_lt (H.out.args x hx) hk) HG.out, fun x hx => by simp at hx, HZ.out, by rw [List.length_replicate, HPlen.out], fun j h1 h2 => by rw [HPlen.out] at h2; omega, HB5.out⟩⟩
            rw [List.drop_eq_nil_of_le (by rw [HPlen.out]; exact Nat.le_refl _)]
            rfl
          case round =>
            obtain ⟨m, hm, rfl, HV⟩ := hrel
            obtain ⟨u6, M6, T6, hI⟩ := HV.out
            have HI6 := Lib.hid hI
            clear hI HV
            rename World => w6
            cases m with
            | zero =>
              rw [show ((0 : Nat) : Int) - 1 = -1 from rfl]
              have HFirst := Lib.hid (lay_first L N.length P (by rw [HPfst.out]; exact HWell.out))
              obtain ⟨y, hy⟩ : ∃ y, y = (adrF L N.length P).getD 0 0 := ⟨_, rfl⟩
              rw [← hy] at HFirst
              have HF2 : Hid ((layF L N.length (itemsF (N.map (·.1)) nd0 Q)).1 = [y]) := by rw [← HPe.out]; exact HFirst.out
              have HM2 : Hid (M6.map (·.1) = (layF L N.length (itemsF (N.map (·.1)) nd0 Q)).2) := by rw [← HPe.out]; have h1 := HI6.out.ms; rwa [List.drop_zero] at h1
              have hy0 : w6.cell? ⟨g, 0, none⟩ = some (.int .i64 y) := by
                have h1 := HI6.out.row.cell 0
                have hl : 0 < (adrF L N.length P).length := by rw [adrF_len, HPlen.out]; exact hQ1
                have h2 := HI6.out.rat 0 (Nat.le_refl _) (by rw [HPlen.out]; exact hQ1)
                rw [List.getElem?_eq_getElem hl] at h2
                rw [hy, List.getD, List.getElem?_eq_getElem hl]
                rw [h1, List.getElem?_toArray]
                simp [nInts, h2]
              clear hy
              obtain ⟨q0, q1, q2, q3, q4, q5⟩ := HI6.out.flt.six
              have qf := fun i => HI6.out.flt.frozen i
              have ql := HI6.out.flt.lt
              go_wp2_with fail
              have X := set6 HI6.out.flt (.int .i64 0) (.int .i64 0) (.int .i64 0) (.bool false) (.int .i64 0) (.int .i64 0)
              exact bodyPost_ret (results_f2 rfl _ rfl X.1) rfl (.inr ⟨u6, M6, y, HGd.out, HF2.out, rfl, HI6.out.hp.apart80 HI6.out.flt X.2, HM2.out, HI6.out.tur.trans X.2 (fun i hi => .inr (by rw [hi]; exact HQ0.out)), HI6.out.vown, fun x hx k hk => Nat.le_of_lt (Nat.lt_of_le_of_lt HG.out (HI6.out.anew x hx k hk))⟩)
            | succ m =>
              rw [show ((m + 1 : Nat) : Int) - 1 = m from by omega]
              have hm0 : (0 : Int) ≤ m := by omega
              have hm1 : (m : Int) < Q.length := by omega
              have hml : m < Q.length := by omega
              have hx0 : Q[m]? = some (Q[m]'hml) := List.getElem?_eq_getElem hml
              have hpl := HPl.out (Q[m]'hml) (List.getElem_mem _)
              have hsl := HSy.out (Q[m]'hml) (List.getElem_mem _)
              have hhd := HHd.out (Q[m]'hml) (List.getElem_mem _)
              have hpm := HPat.out m hml
              have hdr : (Q.map (·.sym)).drop m = (Q[m]'hml).sym :: (Q.map (·.sym)).drop (m + 1) := by
                rw [List.drop_eq_getElem_cons (by simpa using hml)]; simp
              obtain ⟨⟨sy, pth⟩, hx⟩ : ∃ x, x = Q[m]'hml := ⟨_, rfl⟩
              rw [← hx] at hx0 hpl hsl hhd hpm hdr
              simp only at hpl hsl hhd hpm hdr
              have HPq := Lib.hid hpl; have HSl := Lib.hid hsl; have HHm := Lib.hid hhd; have HPm := Lib.hid hpm; have HDr := Lib.hid hdr
              have HP6 := Lib.hid (HQ.out.keep HI6.out.tur)
              obtain ⟨_, bl, off, qv, rfl, c0, c1, hqv⟩ := HP6.out.get hx0
              simp only at c0
              obtain ⟨qA, qc, rfl, _⟩ := id hqv
              have HQv := Lib.hid hqv.rd
              have HC0 := Lib.hid c0; have HC1 := Lib.hid c1
              clear hx0 hx hqv hpl hsl hhd hpm hdr
              have hmP : m < P.length := by rw [HPlen.out]; exact hml
              have HPg : Hid (P[m]'hmP = (sy, handF (N.map (·.1)) nd0 ⟨sy, pth⟩)) := by
                have h1 := HPm.out
                rw [List.getElem?_eq_getElem hmP] at h1
                injection h1
              have HMP := Lib.hid hmP
              by_cases hneg : sy < 0
              · obtain ⟨hsy, _⟩ := HHm.out hneg
                have HRk : Hid (Ranked ((N ++ M6).map (·.1))) := by
                  have h1 := ranked_lay L HR.out (P.drop (m + 1)) (by rw [List.length_map]; exact HPin.out (m + 1))
                  rw [List.length_map, ← HI6.out.ms, ← List.map_append] at h1
                  exact h1
                have HAx : Hid (∀ x ∈ (N ++ M6).map (·.1), x.args.length ≤ 6) := by
                  rw [List.map_append, HI6.out.ms]
                  intro x hx
                  rcases List.mem_append.1 hx with h1 | h1
                  · exact HA6.out x h1
                  · exact lay_six HL.out _ _ x h1
                have HLv := Lib.hid (HLd.out (M6.map (·.1)) pth)
                rw [← List.map_append] at HLv
                obtain ⟨lv, hlv⟩ : ∃ lv, lv = leadF (N.map (·.1)) nd0 pth := ⟨_, rfl⟩
                rw [← hlv] at HLv
                have HAd : Hid ((adrF L N.length P)[m]? = some lv) := by
                  unfold Hid
                  rw [adrF_at L N.length HMP.out, HPg.out]
                  simp only [if_pos hneg, handF, if_pos hsy]
                  rw [← hlv]
                clear hlv hsy
                go_wp2_with fail
                refine (rleads_any w6 r room u6 _ HI6.out.hp.rhp HRk.out HAx.out node _ pth HQv.out HPq.out).mono ?_
                rintro e w7 ⟨rfl, hs7⟩
                rw [HLv.out]
                have HI7 := Lib.hid (HI6.out.same hs7)
                have HN := Lib.hid ((HI7.out.skip HMP.out (by rw [HPg.out]; exact hneg)).put lv HAd.out)
                have gl := HI7.out.row.lt
                have gf := HI7.out.row.frozen m
                obtain ⟨yo, gc⟩ := blk_int HI7.out.row (j := m) (by rw [HI7.out.rlen]; exact HMP.out)
                clear hs7 c0 c1
                go_wp2_with fail
                go_roundw
                case rel => exact ⟨m, by omega, rfl, _, _, _, HN.out⟩
                case measure => simp [intOf]
              · have hpos : ¬ sy < 0 := hneg
                obtain ⟨ar, har⟩ : ∃ ar, ar = arN L sy := ⟨_, rfl⟩
                have HAr := Lib.hid har
                have har6 : ar ≤ 6 := by rw [har]; exact arN_le HL.out sy
                obtain ⟨TL, hTL⟩ : ∃ TL, TL = topsF L ((Q.map (·.sym)).drop (m + 1)) (m + 1) := ⟨_, rfl⟩
                obtain ⟨A, hA⟩ : ∃ A, A = (layF L N.length (P.drop (m + 1))).1.take ar := ⟨_, rfl⟩
                have HA := Lib.hid hA
                have HTk : Hid (∀ j, j ≤ ar → A.take j = (TL.take j).map (fun (p : Nat) => (adrF L N.length P).getD p 0)) := fun j hj => by
                  have h1 := lay_args L N.length P (m + 1) j
                  rw [List.map_drop, HPfst.out, ← hTL] at h1
                  rw [hA, List.take_take, Nat.min_eq_left hj, h1]
                have HWm : Hid (∃ wk, Well L wk ((Q.map (·.sym)).drop (m + 1)) ∧ ar ≤ wk) := by
                  obtain ⟨w', hw'⟩ := well_drop L (Q.map (·.sym)) 1 m HWell.out
                  rw [HDr.out] at hw'
                  exact ⟨_, hw'.2, by rw [har]; omega⟩
                have HEn2 : Hid (ar ≤ TL.length) := by
                  obtain ⟨wk, h1, h2⟩ := HWm.out
                  rw [hTL, topsF_len L _ (m + 1) _ h1]
                  exact h2
                have HAl : Hid (A.length = ar) := by
                  have h1 := HTk.out ar (Nat.le_refl _)
                  rw [List.take_of_length_le (by rw [hA, List.length_take]; omega)] at h1
                  rw [h1, List.length_map, List.length_take]
                  have := HEn2.out
                  unfold Hid; omega
                have HTL := Lib.hid hTL
                clear hA hTL har
                go_wp2_with fail
                go_loopw [17, 18, 19] (fun av nv kv wr => ∃ j p : Nat, j ≤ ar ∧ p ≤ Q.length ∧ m + 1 ≤ p ∧ kv = .int .i64 j ∧ nv = .int .i64 p ∧ (∃ aa ac, av = .slice aa j ac) ∧ Hid (RowI w6 wr av (A.take j) ∧ TL.drop j = topsF L ((Q.map (·.sym)).drop p) p ∧ ∃ wk, Well L wk ((Q.map (·.sym)).drop p) ∧ ar ≤ j + wk)) (fun _ _ kv _ => ar - (intOf kv).toNat)
                case atStart =>
                  obtain ⟨wk, h1, h2⟩ := HWm.out
                  exact ⟨0, m + 1, Nat.zero_le _, by omega, Nat.le_refl _, rfl, by go_num, ⟨_, _, rfl⟩, ⟨Turned.refl _ _, World.ownsRow_nil _ _ _ _, fun k hk => by simp [Value.ownBlock] at hk⟩, by rw [List.drop_zero]; exact HTL.out, wk, h1, by omega⟩
                case round =>
                  obtain ⟨j, p, hj, hp, hmp, rfl, rfl, ⟨aa, ac, rfl⟩, HV⟩ := hrel
                  rename World => w7
                  have c0' := (HV.out.1.same.cell (p := ⟨bl, off + m * 2, none⟩) (World.block_lt_of_cell? _ _ HC0.out) (fun h => h)).trans HC0.out
                  have c1' := (HV.out.1.same.cell (p := ⟨bl, off + m * 2 + 1, none⟩) (World.block_lt_of_cell? _ _ HC1.out) (fun h => h)).trans HC1.out
                  have HI7 := Lib.hid (HI6.out.same HV.out.1.same)
                  have HLu7 : Hid (SymRd w7 (.slice la L.length lc) L) := SymRd.of_own (World.ownsRow.turned HLu.out HI7.out.tur (fun k hk hf => by
                    rcases hf with e | e
                    · exact own_blk_ne HLu.out H.out.blk (by decide) (by rw [hk, e])
                    · exact own_own_ne HLu.out H.out.own (by decide) k hk e))
                  have HP7 := Lib.hid (HQ.out.keep HI7.out.tur)
                  clear c0 c1
                  go_wp2_with fail
                  refine (rarity2_any w7 _ L HLu7.out HL.out sy HSl.out _).mono ?_
                  rintro e w8 ⟨rfl, hs8⟩
                  rw [← HAr.out]
                  have HI8 := Lib.hid (HI7.out.same hs8)
                  have HRw8 : Hid (RowI w6 w8 (.slice aa j ac) (A.take j)) := ⟨HV.out.1.same.trans hs8 (fun _ h => h.elim), World.ownsRow.same_ HV.out.1.own hs8, HV.out.1.new⟩
                  have HLu8 := Lib.hid (HLu7.out.same hs8)
                  have HP8 := Lib.hid (HP7.out.same hs8)
                  have c0'' := (hs8.cell (p := ⟨bl, off + m * 2, none⟩) (World.block_lt_of_cell? _ _ c0') (fun h => h)).trans c0'
                  have HV2 := Lib.hid HV.out.2
                  clear c0' c1' hs8 HI7 HLu7 HP7 HV
                  by_cases hlt : j < ar
                  · have hjT : j < TL.length := by have := HEn2.out; omega
                    have htk : TL.take (j + 1) = TL.take j ++ [TL[j]] := List.take_succ_eq_append_getElem hjT
                    have hdk : TL.drop j = TL[j] :: TL.drop (j + 1) := List.drop_eq_getElem_cons hjT
                    obtain ⟨hd2, wk, hw1, hw2⟩ := HV2.out
                    have hne := well_ne L hw1 (by omega)
                    have hpl : p < Q.length := by
                      rcases Nat.lt_or_ge p Q.length with h | h
                      · exact h
                      · exact absurd (List.drop_eq_nil_of_le (by simpa using h)) hne
                    have hpS : p < (Q.map (·.sym)).length := by simpa using hpl
                    have hTj : TL[j] = p := by
                      rw [hdk, List.drop_eq_getElem_cons hpS] at hd2
                      simp only [topsF] at hd2
                      injection hd2
                    have HDk : Hid (TL.drop (j + 1) = topsF L ((Q.map (·.sym)).drop (p + consF L 1 ((Q.map (·.sym)).drop p))) (p + consF L 1 ((Q.map (·.sym)).drop p))) := by
                      have h3 : TL.drop (j + 1) = (TL.drop j).drop 1 := by rw [List.drop_drop]
                      rw [h3, hd2, topsF_drop, List.drop_drop]; rfl
                    have HWk : Hid (∃ wk, Well L wk ((Q.map (·.sym)).drop (p + consF L 1 ((Q.map (·.sym)).drop p))) ∧ ar ≤ j + 1 + wk) := by
                      have h3 := well_cons L _ wk 1 hw1 (by omega)
                      rw [List.drop_drop] at h3
                      exact ⟨wk - 1, h3, by omega⟩
                    have HCle : Hid (p + consF L 1 ((Q.map (·.sym)).drop p) ≤ Q.length) := by
                      have := consF_le L ((Q.map (·.sym)).drop p) 1
                      rw [List.length_drop, List.length_map] at this
                      unfold Hid; omega
                    have HEp := Lib.hid (endP_at hw1 (show 0 < wk by omega))
                    have HPge : Hid (m + 1 ≤ p + consF L 1 ((Q.map (·.sym)).drop p)) := by unfold Hid; omega
                    obtain ⟨y, hy⟩ : ∃ y, y = (adrF L N.length P).getD p 0 := ⟨_, rfl⟩
                    have HTk1 : Hid (A.take (j + 1) = A.take j ++ [y]) := by
                      unfold Hid
                      rw [HTk.out (j + 1) (by omega), HTk.out j hj, htk, hTj, List.map_append, hy]; rfl
                    have gy : w8.cell? ⟨g, p, none⟩ = some (.int .i64 y) := by
                      have hl : p < (adrF L N.length P).length := by rw [adrF_len, HPlen.out]; exact hpl
                      have h2 := HI8.out.rat p hmp (by rw [HPlen.out]; exact hpl)
                      rw [List.getElem?_eq_getElem hl] at h2
                      rw [hy, List.getD, List.getElem?_eq_getElem hl, HI8.out.row.cell p, List.getElem?_toArray]
                      simp [nInts, h2]
                    have hp0 : (0 : Int) ≤ p := by omega
                    have hp1 : (p : Int) < Q.length := by omega
                    have HJl : Hid ((A.take j).length = j) := by rw [List.length_take]; have := HAl.out; unfold Hid; omega
                    have HO : Hid (w8.ownsRow 0 3 1 (.slice aa j ac) j (nInts (A.take j))) := by have h1 := HRw8.out.own; rwa [HJl.out] at h1
                    obtain ⟨p2, hp2⟩ : ∃ p2, p2 = p + consF L 1 ((Q.map (·.sym)).drop p) := ⟨_, rfl⟩
                    rw [← hp2] at HDk HWk HCle HEp HPge
                    obtain ⟨TA, hTA⟩ : ∃ TA, TA = nInts (A.take j) := ⟨_, rfl⟩
                    rw [← hTA] at HO
                    have HTA := Lib.hid hTA
                    clear hjT htk hdk hd2 hw1 hw2 hne hpS hTj hy hp2 hTA
                    go_upto_region 31 with fail
                    go_wp2_with (at_builtin; go_loud (refine wpList_append_src _ rfl _ _ 26 rfl 3 i0 _ 1 8 Try.underlying26 HI.out.1 HI.out.2.1 HI.out.2.2.1 HI.out.2.2.2 rfl (by omega) (.slice aa j ac) j TA rfl (by exact World.ownsRow.alloc HO.out _) (some ⟨w8.heap.size, 0, none⟩) 1 1 (nInts [y]) rfl (by simp [nInts]) (by exact fun _ => src_new w8 (nInts [y]) 3 (by omega)) (nInts_one _) (by unfold maxLen; omega) (by omega) ?_))
                    intro a6 c6 w9 ho6 hg6 hat6
                    have HN : Hid (RowI w6 w9 (.slice a6 (j + 1) c6) (A.take (j + 1))) := by
                      rw [HTk1.out]
                      exact HRw8.out.push (w1 := w8.alloc (.cells #[.int .i64 y] 3)) ((Turned.refl _ _).alloc _) (by rw [HJl.out, ← HTA.out]; exact ho6) hg6 (by rw [World.size_alloc]; exact hat6)
                    have HI9 := Lib.hid (HI6.out.same HN.out.same)
                    have HLu9 : Hid (SymRd w9 (.slice la L.length lc) L) := SymRd.of_own (World.ownsRow.turned HLu.out HI9.out.tur (fun k hk hf => by
                      rcases hf with e | e
                      · exact own_blk_ne HLu.out H.out.blk (by decide) (by rw [hk, e])
                      · exact own_own_ne HLu.out H.out.own (by decide) k hk e))
                    have HP9 := Lib.hid (HQ.out.keep HI9.out.tur)
                    clear ho6 hg6 hat6 HO gy c0''
                    go_wp2_with fail
                    refine (rend2_any w9 _ L HLu9.out HL.out (hfoot r (.slice ua N.length uc)) _ Q HP9.out HSy.out hQl p hp).mono ?_
                    rintro e w10 ⟨rfl, hs10⟩
                    rw [HEp.out]
                    have HN2 : Hid (RowI w6 w10 (.slice a6 (j + 1) c6) (A.take (j + 1))) := ⟨HN.out.same.trans hs10 (fun _ h => h.elim), World.ownsRow.same_ HN.out.own hs10, HN.out.new⟩
                    have hp2l : p2 ≤ Q.length := HCle.out
                    clear hs10
                    go_wp2_with fail
                    go_roundw
                    case rel => exact ⟨j + 1, p2, by omega, hp2l, HPge.out, by go_num, rfl, ⟨_, _, rfl⟩, HN2.out, HDk.out, HWk.out⟩
                    case measure => simp [intOf]; omega
                  · have hjj : j = ar := by omega
                    subst hjj
                    have HPf : Hid (A.take j = A) := by have h1 := HAl.out; unfold Hid; rw [← h1, List.take_length]
                    have HRw : Hid (RowI w6 w8 (.slice aa j ac) A) := by have h1 := HRw8.out; rwa [HPf.out] at h1
                    have HGlt : Hid (g < w6.heap.size) := HI6.out.row.lt
                    obtain ⟨va, vc, rfl, _, _⟩ := own_shape HI8.out.hp.own
                    obtain ⟨nn, hnn⟩ : ∃ nn, nn = (N ++ M6).length := ⟨_, rfl⟩
                    have HNn := Lib.hid hnn
                    have HMl : Hid (M6.length = (layF L N.length (P.drop (m + 1))).2.length) := by rw [← HI8.out.ms, List.length_map]; rfl
                    have hnn4 : nn ≤ 4000 := by
                      have h1 := HSyms.out (m + 1)
                      rw [hnn, List.length_append, HMl.out]
                      omega
                    have HO5 : Hid (w8.ownsRow 0 53 5 (.slice va nn vc) nn (nall (N ++ M6))) := by rw [hnn]; exact HI8.out.hp.own
                    have k0' : w8.cell? ⟨r, 1, none⟩ = some (.slice va nn vc) := by rw [hnn]; exact (HI8.out.hp.blk.cell 1).trans rfl
                    have f0' := HI8.out.hp.blk.frozen 1
                    have l0' := HI8.out.hp.blk.lt
                    have HNE : Hid ((Value.slice va nn vc).ownBlock ≠ some r) := own_blk_ne HO5.out HI8.out.hp.blk (by decide)
                    have htl := World.block_lt_of_cell? _ _ c0''
                    rw [← hnn] at HI8
                    have HAdr : Hid ((adrF L N.length P)[m]? = some (nn : Int)) := by
                      unfold Hid
                      rw [adrF_at L N.length HMP.out, HPg.out, if_neg (show ¬ sy < 0 by omega), ← HMl.out, HNn.out, List.length_append]
                    obtain ⟨i5, hi5, hv0, hv1, hv2⟩ := info_parts info53
                    have HI5 : Hid (Try.prog.info? 53 = some i5 ∧ i5.zero = some (.agg #[.int .i64 0, .slice none 0 0, .int .i64 0, .bool false, .int .i64 0]) ∧ i5.size = 5 ∧ i5.bytes = 56) := ⟨hi5, hv0, hv1, hv2⟩
                    clear hnn hi5 hv0 hv1 hv2 HRw8 HI6
                    go_wp2_with fail
                    go_region_law ((refine step_append_lies _ (by rfl) _ _ _ (by rfl) 0 53 i5 _ 5 56 Try.underlying23 HI5.out.1 HI5.out.2.1 HI5.out.2.2.1 HI5.out.2.2.2 rfl (by omega) (.slice va nn vc) nn (nall (N ++ M6)) (by rfl) ((HO5.out.alloc _).drew) ⟨w8.heap.size, 0, none⟩ 1 1 [.int .i64 sy, .slice aa j ac, .int .i64 0, .bool false, .int .i64 0] (by rfl) (by rfl) (World.news_of_block (cs := #[.int .i64 sy, .slice aa j ac, .int .i64 0, .bool false, .int .i64 0]) (t := 53) (fr := (0, 0)) (heap_alloc_new w8 _)) (by simp [Value.oneCell']) (by omega) (by unfold maxLen; omega) (by omega) (by simp) (w8.heap.size + 1) (by simp) ?_; intro g9 cap w9 hown6 hgrow6 hat6 hlt6; have k0 : w9.cell? ⟨r, 1, none⟩ = some (.slice va nn vc) := ((hgrow6.cell_far ⟨r, 1, none⟩ (by simp; omega) HNE.out.symm).trans (World.cell?_alloc_lt w8 _ ⟨r, 1, none⟩ l0')).trans k0'; have kf : w9.frozen? ⟨r, 1, none⟩ = false := ((hgrow6.frozen_far ⟨r, 1, none⟩ (by simp; omega) HNE.out.symm).trans (World.frozen?_alloc_past _ r 1 l0')).trans f0'))
                    all_goals
                      have hgr : (w8.alloc (.cells #[.int .i64 sy, .slice aa j ac, .int .i64 0, .bool false, .int .i64 0] 53)).grownBy w9 (Value.slice va nn vc).ownBlock := ⟨hgrow6.os, hgrow6.tape, hgrow6.output, hgrow6.size, hgrow6.block⟩
                      have HN := Lib.hid (HI8.out.push (A := A) (av := .slice aa j ac) HNn.out HMP.out (by rw [HPg.out]) (by omega) (by rw [← HAr.out]; exact HA.out) HRw.out.own (fun k hk => Nat.lt_of_lt_of_le HGlt.out (HRw.out.new k hk)) hown6 hgr hat6)
                      clear hown6 hgrow6 hat6 hlt6 k0 kf hgr k0' f0' l0' htl c0''
                      have r1 := (HN.out.hp.blk.cell 1).trans rfl
                      have gl := HN.out.row.lt
                      have gf := HN.out.row.frozen m
                      obtain ⟨yo, gc⟩ := blk_int HN.out.row (j := m) (by rw [HN.out.rlen]; exact HMP.out)
                      obtain ⟨w10, hw10⟩ : ∃ w10, w10 = w9.setCell ⟨r, 1, none⟩ (.slice (some ⟨g9, 0, none⟩) (nn + 1) cap) := ⟨_, rfl⟩
                      rw [← hw10] at HN r1 gl gf gc ⊢
                      clear hw10
                      have HN2 := Lib.hid (HN.out.put nn HAdr.out)
                      go_wp2_with fail
                      go_roundw
                      case rel => exact ⟨m, by omega, rfl, _, _, _, HN2.out⟩
                      case measure => simp [intOf]
end Go.Proofs.Yteohhiefchoamaa
