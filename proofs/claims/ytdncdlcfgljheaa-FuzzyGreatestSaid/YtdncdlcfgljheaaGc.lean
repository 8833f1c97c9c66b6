/- Contracts of fuzzy.asked, covered, Covered, Matches. -/
import Derived.Test.YtdncdlcfgljheaaGn
namespace Go.Proofs.Ytdncdlcfgljheaa
open Go.RowKit

/-- two sets of texts, none too long -/
structure Sets (w : World) (B : Nat) (qv vv : Value) (qs vs : List ByteArray) : Prop where
  q : RdS w B qv qs
  v : RdS w B vv vs
  low : B ≤ w.heap.size
  sq : ∀ i, (qs.getD i ⟨#[]⟩).size ≤ 1073741824
  sv : ∀ i, (vs.getD i ⟨#[]⟩).size ≤ 1073741824
  nq : qs.length ≤ 1048576
  nv : vs.length ≤ 1048576
  setq : isSet qs = true
  setv : isSet vs = true
theorem Sets.below {w w' : World} {B : Nat} {qv vv : Value} {qs vs : List ByteArray} (h : Sets w B qv vv qs vs) (hb : Below w.heap.size w w') : Sets w' B qv vv qs vs :=
  ⟨h.q.below hb h.low, h.v.below hb h.low, Nat.le_trans h.low hb.size, h.sq, h.sv, h.nq, h.nv, h.setq, h.setv⟩
theorem Sets.turn {w : World} {B : Nat} {qv vv : Value} {qs vs : List ByteArray} (h : Sets w B qv vv qs vs) : Sets w B vv qv vs qs :=
  ⟨h.v, h.q, h.low, h.sv, h.sq, h.nv, h.nq, h.setv, h.setq⟩

set_option maxHeartbeats 1000000 in
theorem fuzzy_asked (K L N D : Int) (bnd : Bool) (lim : Nat) (sim : ByteArray → ByteArray → Bool) (HRU : Ruled K L N D bnd lim sim) (qv vv : Value) (qs vs : List ByteArray) (B : Nat) (w : World) (hs : Sets w B qv vv qs vs) :
    Calls Try.prog 17 #[.agg #[.int .i64 K, .int .i64 L, .int .i64 N, .int .i64 D], qv, vv] w (Ret w (.bool true)) := by
  have HR := hid HRU
  have HS := hid hs
  clear HRU hs
  go_enter Try.func17, Try.ntmps17
  go_wp2_with fail
  with_reducible refine (HR.out.valid _).mono ?_
  rintro e w1 ⟨rfl, hb1⟩
  have hB1 : Below w.heap.size w w1 := by repeat' (first | (with_reducible exact Below.refl _ _) | (with_reducible assumption) | (with_reducible refine below_drewN ?_) | (with_reducible refine Below.alloc ?_ ?_ _) | (with_reducible refine Below.drew ?_) | (with_reducible refine Below.setCell ?_ ?_ _) | (with_reducible refine Below.trans ?_ (Below.mono (by with_reducible assumption) ?_)) | go_size)
  have HB := hid hB1
  have HQ := hid (text_IsSet _ _ _ w1 (HS.out.below hB1).q)
  rw [HS.out.setq] at HQ
  clear hb1 hB1
  go_wp2_with fail
  with_reducible refine HQ.out.mono ?_
  rintro e w2 ⟨rfl, k2, rfl⟩
  have HV := hid (text_IsSet _ _ _ (w1.drewN k2) (HS.out.below (below_drewN HB.out)).v)
  rw [HS.out.setv] at HV
  go_wp2_with fail
  with_reducible refine HV.out.mono ?_
  rintro e w3 ⟨rfl, k3, rfl⟩
  go_wp2
  go_ret
  exact ⟨rfl, below_drewN HB.out⟩

def coveredE (E : Nat → List Nat) (n : Nat) : Nat := ((List.range n).filter fun i => decide (0 < (E i).length)).length
theorem coveredE_succ (E : Nat → List Nat) (n : Nat) : coveredE E (n + 1) = coveredE E n + if 0 < (E n).length then 1 else 0 := by
  unfold coveredE
  rw [List.range_succ, List.filter_append, List.length_append, List.filter_cons]
  split <;> simp_all
theorem coveredE_le (E : Nat → List Nat) (n : Nat) : coveredE E n ≤ n := by
  have := List.length_filter_le (fun i => decide (0 < (E i).length)) (List.range n)
  unfold coveredE; simpa using this

set_option maxHeartbeats 1000000 in
theorem fuzzy_coveredL (v : Value) (n B : Nat) (E : Nat → List Nat) (w : World) (hv : RdN w B v n E) (hn : n ≤ 1073741824) :
    Calls Try.prog 18 #[v] w fun e w' => e = .returned (.int .i64 ((coveredE E n : Nat) : Int)) ∧ w = w' := by
  obtain ⟨f, ⟨a, c, rfl, hc, hm, hx⟩, hin⟩ := hv
  have HX := hid hx
  have HIN := hid hin
  have HCS := hid (fun k => coveredE_succ E k)
  have HCL := hid (fun k => coveredE_le E k)
  clear hx hin
  unfold maxLen at hm
  go_enter Try.func18, Try.ntmps18
  go_wp2
  go_loop [3, 8] (fun s i => ∃ k : Nat, k ≤ n ∧ i = .int .i64 k ∧ s = .int .i64 ((coveredE E k : Nat) : Int)) (fun _ i => n - (intOf i).toNat)
  case atStart => exact ⟨0, by omega, rfl, by simp [coveredE]⟩
  case round =>
    obtain ⟨k, hk, rfl, rfl⟩ := hrel
    have hle := HCL.out k
    have HS := hid (HCS.out k)
    by_cases hlt : k < n
    · obtain ⟨b, o, rfl, hb, hcell⟩ := HX.out (by omega)
      have h0 := hcell k hlt
      obtain ⟨a2, c2, hfk, hc2, hm2, _⟩ := HIN.out k hlt
      rw [hfk] at h0
      clear hcell hfk
      unfold maxLen at hm2
      generalize hm3 : (E k).length = m at *
      clear hm3
      generalize hS1 : coveredE E (k + 1) = s1 at *
      have HS1 := hid hS1
      clear hS1
      generalize coveredE E k = s0 at *
      by_cases hp : 0 < m
      · have HS2 := hid (show s1 = s0 + 1 by rw [HS.out, if_pos hp])
        go_wp2
        go_round
        case rel => exact ⟨k + 1, by omega, by go_num, by rw [HS1.out, HS2.out]; go_num⟩
        case measure => simp [intOf]; omega
      · have HS2 := hid (show s1 = s0 by rw [HS.out, if_neg hp]; rfl)
        go_wp2
        go_round
        case rel => exact ⟨k + 1, by omega, by go_num, by rw [HS1.out, HS2.out]⟩
        case measure => simp [intOf]; omega
    · obtain rfl : k = n := by omega
      go_wp2
      go_ret
      exact ⟨rfl, rfl⟩

set_option maxHeartbeats 1000000 in
theorem fuzzy_Covered (K L N D : Int) (bnd : Bool) (lim : Nat) (sim : ByteArray → ByteArray → Bool) (HRU : Ruled K L N D bnd lim sim) (qv vv : Value) (qs vs : List ByteArray) (B : Nat) (w : World) (hs : Sets w B qv vv qs vs) :
    Calls Try.prog 8 #[.agg #[.int .i64 K, .int .i64 L, .int .i64 N, .int .i64 D], qv, vv] w (Ret w (.int .i64 ((Mt.coveredP (nearS bnd lim sim qs vs) qs.length vs.length : Nat) : Int))) := by
  have HS := hid hs
  have HEQ : Hid (Mt.coveredP (nearS bnd lim sim qs vs) qs.length vs.length = coveredE (Mt.nearE (nearS bnd lim sim qs vs) vs.length) qs.length) := hid rfl
  have HNP := hid (fun W (h : Sets W B qv vv qs vs) => fuzzy_near K L N D bnd lim sim HRU qv vv qs vs B W h.q h.v h.low h.sq h.sv (by have := h.nq; omega) (by have := h.nv; omega))
  have HAS := hid (fun W (h : Sets W B qv vv qs vs) => fuzzy_asked K L N D bnd lim sim HRU qv vv qs vs B W h)
  have hnq := hs.nq
  clear hs HRU
  generalize Mt.coveredP (nearS bnd lim sim qs vs) qs.length vs.length = C at *
  generalize Mt.nearE (nearS bnd lim sim qs vs) vs.length = E at *
  generalize hn : qs.length = n at *
  clear hn
  go_enter Try.func8, Try.ntmps8
  go_wp2_with fail
  have hB0 : Below w.heap.size w (w.alloc (.cells #[.int .i64 K, .int .i64 L, .int .i64 N, .int .i64 D] 29)) := by repeat' (first | (with_reducible exact Below.refl _ _) | (with_reducible assumption) | (with_reducible refine below_drewN ?_) | (with_reducible refine Below.alloc ?_ ?_ _) | (with_reducible refine Below.drew ?_) | (with_reducible refine Below.setCell ?_ ?_ _) | (with_reducible refine Below.trans ?_ (Below.mono (by with_reducible assumption) ?_)) | go_size)
  with_reducible refine (HAS.out _ (HS.out.below hB0)).mono ?_
  rintro e w1 ⟨rfl, hb1⟩
  have k0 := cell_later hb1 (a := ⟨w.heap.size, 0, none⟩) (v := .int .i64 K) (by go_cell)
  have k1 := cell_later hb1 (a := ⟨w.heap.size, 1, none⟩) (v := .int .i64 L) (by go_cell)
  have k2 := cell_later hb1 (a := ⟨w.heap.size, 2, none⟩) (v := .int .i64 N) (by go_cell)
  have k3 := cell_later hb1 (a := ⟨w.heap.size, 3, none⟩) (v := .int .i64 D) (by go_cell)
  have hB1 : Below w.heap.size w w1 := by repeat' (first | (with_reducible exact Below.refl _ _) | (with_reducible assumption) | (with_reducible refine below_drewN ?_) | (with_reducible refine Below.alloc ?_ ?_ _) | (with_reducible refine Below.drew ?_) | (with_reducible refine Below.setCell ?_ ?_ _) | (with_reducible refine Below.trans ?_ (Below.mono (by with_reducible assumption) ?_)) | go_size)
  have HB1 := hid hB1
  clear hb1 hB0 hB1
  go_wp2_with fail
  with_reducible refine (HNP.out _ (HS.out.below HB1.out)).mono ?_
  rintro e w2 ⟨a2, c2, rfl, hr2, hb2⟩
  have HR2 := hid hr2.rd
  have HB2 := hid (HB1.out.trans (hb2.mono HB1.out.size))
  clear hr2 hb2
  go_wp2_with fail
  with_reducible refine (fuzzy_coveredL _ n _ E _ HR2.out (by omega)).mono ?_
  rintro e w3 ⟨rfl, rfl⟩
  go_wp2
  go_ret
  exact ⟨ret_int (by rw [HEQ.out]), HB2.out⟩

end Go.Proofs.Ytdncdlcfgljheaa
