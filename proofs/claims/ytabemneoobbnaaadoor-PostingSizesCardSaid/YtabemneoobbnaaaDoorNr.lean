/- Contracts of posting.Column, Entries, List. -/
import Derived.Test.YtabemneoobbnaaaDoorNq
namespace Go.Proofs.YtabemneoobbnaaaDoor
open Go.RowKit

set_option maxHeartbeats 1000000 in
theorem posting_Entries (ix : Ix) (ev vv lv : Value) (B : Nat) (w : World) (hx : RdIx w (· < B) ev vv lv ix) (hB : B ≤ w.heap.size) (hm : (ix.lists.map List.length).sum ≤ 1099511627776) :
    Calls Tryd.prog 11 #[.agg #[ev, vv, lv]] w (Ret w (.int .i64 (((ix.lists.map List.length).sum : Nat) : Int))) := by
  obtain ⟨⟨ea, ec, rfl, -⟩, ⟨va, vc, rfl, -⟩, lf, ⟨la, lc, rfl, hlc, hlm, hlr⟩, hkids⟩ := hx
  have HLR := hid hlr
  have HKI : Hid (∀ i, i < ix.lists.length → ∃ a c, lf i = .slice a (ix.lists.getD i []).length c) := hid (fun i hi => by
    obtain ⟨a, c, e, -⟩ := hkids i hi
    exact ⟨a, c, e⟩)
  have HSU : Hid (∀ k, k < ix.lists.length → ((ix.lists.take (k + 1)).map List.length).sum = ((ix.lists.take k).map List.length).sum + (ix.lists.getD k []).length) := hid (fun k hk => by
    rw [List.take_succ_eq_append_getElem hk, List.map_append, List.sum_append]
    simp [List.getD, hk])
  have HLE : Hid (∀ k, ((ix.lists.take k).map List.length).sum ≤ (ix.lists.map List.length).sum) := hid (fun k => by
    have e : (ix.lists.map List.length).sum = ((ix.lists.take k).map List.length).sum + ((ix.lists.drop k).map List.length).sum := by
      rw [← List.sum_append, ← List.map_append, List.take_append_drop]
    omega)
  have HAL : Hid ((ix.lists.map List.length).sum = ((ix.lists.take ix.lists.length).map List.length).sum) := hid (by rw [List.take_length])
  clear hlr hkids
  generalize (ix.lists.map List.length).sum = R at *
  generalize ix.ents.length = n1 at *
  generalize ix.vals.length = n2 at *
  generalize hn : ix.lists.length = n at *
  clear hn
  unfold maxLen at hlm
  go_enter Tryd.func11, Tryd.ntmps11
  go_wp2_with fail
  have HB0 := hid ((Below.refl w.heap.size w).alloc (Nat.le_refl _) (.cells #[.slice ea n1 ec, .slice va n2 vc, .slice la n lc] 30))
  generalize w.alloc (.cells #[.slice ea n1 ec, .slice va n2 vc, .slice la n lc] 30) = W0 at *
  go_loopg [3, 9] n (fun N v i wr => ∃ q : Nat, q + N = n ∧ i = .int .i64 (q : Int) ∧ v = .int .i64 ((((ix.lists.take q).map List.length).sum : Nat) : Int) ∧ wr = W0)
  case atStart => exact ⟨0, by omega, rfl, by simp, rfl⟩
  case round =>
    obtain ⟨q, hq, rfl, rfl, rfl⟩ := hrel
    have hle := HLE.out q
    by_cases hp : 0 < gk
    · obtain ⟨b, o, rfl, hb, hcell⟩ := HLR.out (by omega)
      have hb' : b < B := hb
      obtain ⟨xa, xc, e1⟩ := HKI.out q (by omega)
      have k0 : wr.cell? ⟨b, o + q, none⟩ = some (lf q) := (HB0.out.cell (p := ⟨b, o + q, none⟩) (by show b < _; omega)).trans (by have := hcell q (by omega) 0 (by omega); simpa using this)
      rw [e1] at k0
      have hle2 := HLE.out (q + 1)
      have HS := hid (HSU.out q (by omega))
      rw [HS.out] at hle2
      clear hcell e1
      generalize (ix.lists.getD q []).length = m at *
      generalize ((ix.lists.take q).map List.length).sum = S at *
      go_wp2
      go_roundg (gk - 1)
      case rel => exact ⟨q + 1, by omega, by go_num, by rw [HS.out]; go_num, rfl⟩
      case measure => omega
    · obtain rfl : q = n := by omega
      rw [← HAL.out]
      go_wp2
      go_ret
      exact ⟨rfl, HB0.out⟩

/-- two references are one -/
def reqB (a b : Int × Int) : Bool := decide (a.1 = b.1) && decide (a.2 = b.2)

set_option maxHeartbeats 1000000 in
theorem posting_Column1 (e1 e2 e3 r1 r2 : Int) (rb : Nat) (w : World) (h1 : w.cell? ⟨rb, 0, none⟩ = some (.int .i64 r1)) (h2 : w.cell? ⟨rb, 1, none⟩ = some (.int .i64 r2)) :
    Calls Tryd.prog 23 #[.agg #[.int .i64 e1, .int .i64 e2, .int .i64 e3], .pointer (some ⟨rb, 0, none⟩)] w (Ret w (.bool (reqB (e1, e2) (r1, r2)))) := by
  have hrl := World.block_lt_of_cell? _ _ h1
  have n1 : (w.alloc (.cells #[.int .i64 e1, .int .i64 e2, .int .i64 e3] 37)).cell? ⟨rb, 0, none⟩ = some (.int .i64 r1) := (World.cell?_alloc_lt _ _ _ hrl).trans h1
  have n2 : (w.alloc (.cells #[.int .i64 e1, .int .i64 e2, .int .i64 e3] 37)).cell? ⟨rb, 1, none⟩ = some (.int .i64 r2) := (World.cell?_alloc_lt _ _ _ (by exact hrl)).trans h2
  go_enter Tryd.func23, Tryd.ntmps23
  have HRQ : Hid (reqB (e1, e2) (r1, r2) = (decide (e1 = r1) && decide (e2 = r2))) := hid rfl
  generalize reqB (e1, e2) (r1, r2) = q at *
  go_wp2
  all_goals
    go_ret
    exact ⟨ret_bool (by rw [HRQ.out]; simp [*]), by have := Below.refl w.heap.size w; repeat' (first | (with_reducible exact Below.refl _ _) | (with_reducible assumption) | (with_reducible refine below_drewN ?_) | (with_reducible refine Below.alloc ?_ ?_ _) | (with_reducible refine Below.drew ?_) | (with_reducible refine Below.setCell ?_ ?_ _) | (with_reducible refine Below.trans ?_ (Below.mono (by with_reducible assumption) ?_)) | go_size)⟩

/-- the place of a reference, or -1 -/
def findR : List (Int × Int) → Int × Int → Nat → Int
  | [], _, _ => -1
  | a :: l, r, k => if reqB a r = true then (k : Int) else findR l r (k + 1)
theorem findR_none : ∀ (l : List (Int × Int)) (r : Int × Int) (k : Nat), (∀ j, j < l.length → reqB (l.getD j (0, 0)) r = false) → findR l r k = -1
  | [], _, _, _ => rfl
  | a :: l, r, k, h => by
    have h0 := h 0 (by simp)
    simp at h0
    rw [findR, h0, if_neg (by simp)]
    exact findR_none l r (k + 1) fun j hj => by have := h (j + 1) (by simp; omega); simpa using this
theorem findR_at : ∀ (l : List (Int × Int)) (r : Int × Int) (k j : Nat), j < l.length → (∀ i, i < j → reqB (l.getD i (0, 0)) r = false) → reqB (l.getD j (0, 0)) r = true → findR l r k = ((k + j : Nat) : Int)
  | [], _, _, _, h, _, _ => by simp at h
  | a :: l, r, k, 0, _, _, h => by
    simp at h
    rw [findR, h, if_pos rfl]
    rfl
  | a :: l, r, k, j + 1, hj, h1, h2 => by
    have h0 := h1 0 (by omega)
    simp at h0
    rw [findR, h0, if_neg (by simp), findR_at l r (k + 1) j (by simpa using hj) (fun i hi => by have := h1 (i + 1) (by omega); simpa using this) (by simpa using h2)]
    congr 1
    omega
def refsE (es : List ((Int × Nat) × Nat)) : List (Int × Int) := es.map fun e => (e.1.1, (e.1.2 : Int))
theorem refsE_at {es : List ((Int × Nat) × Nat)} {i : Nat} (h : i < es.length) : (refsE es).getD i (0, 0) = ((es.getD i ((0, 0), 0)).1.1, ((es.getD i ((0, 0), 0)).1.2 : Int)) := by simp [refsE, List.getD, h]

set_option maxRecDepth 100000 in
set_option maxHeartbeats 1000000 in
theorem lib_IndexFunc (ev : Value) (es : List ((Int × Nat) × Nat)) (r1 r2 : Int) (rb B : Nat) (w : World) (hv : InK 3 w (· < B) ev es.length (entF es)) (hB : B ≤ w.heap.size) (hl : es.length ≤ 1048576)
    (h1 : w.cell? ⟨rb, 0, none⟩ = some (.int .i64 r1)) (h2 : w.cell? ⟨rb, 1, none⟩ = some (.int .i64 r2)) :
    Calls Tryd.prog 22 #[ev, .func (.func 23) #[] #[.pointer (some ⟨rb, 0, none⟩)]] w (Ret w (.int .i64 (findR (refsE es) (r1, r2) 0))) := by
  have hrl := World.block_lt_of_cell? _ _ h1
  have HCL := hid (fun W (hW : Below w.heap.size w W) e1 e2 e3 => posting_Column1 e1 e2 e3 r1 r2 rb W ((hW.cell (p := ⟨rb, 0, none⟩) hrl).trans h1) ((hW.cell (p := ⟨rb, 1, none⟩) (by exact hrl)).trans h2))
  obtain ⟨a, k, rfl, hk, hm, hrd⟩ := hv
  have HRD := hid hrd
  have HAT := hid (fun i h => @refsE_at es i h)
  have hrel : (refsE es).length = es.length := by simp [refsE]
  have HNO := hid (findR_none (refsE es) (r1, r2) 0)
  have HYE := hid (findR_at (refsE es) (r1, r2) 0)
  rw [hrel] at HNO HYE
  clear hrd h1 h2 hrel
  generalize findR (refsE es) (r1, r2) 0 = R at *
  generalize hn : es.length = n at *
  clear hn
  unfold maxLen at hm
  go_enter Tryd.func22, Tryd.ntmps22
  go_wp2_with fail
  go_loopg [8] n (fun N i wr => ∃ q : Nat, q + N = n ∧ i = .int .i64 (q : Int) ∧ Hid (Below w.heap.size w wr) ∧ Hid (∀ j, j < q → reqB ((refsE es).getD j (0, 0)) (r1, r2) = false))
  case atStart => exact ⟨0, by omega, rfl, hid (Below.refl _ _), hid (fun j h => absurd h (by omega))⟩
  case round =>
    obtain ⟨q, hq, rfl, HB, HALL⟩ := hrel
    by_cases hp : 0 < gk
    · obtain ⟨b, o, rfl, hb, hcell⟩ := HRD.out (by omega)
      have hb' : b < B := hb
      have k0 : wr.cell? ⟨b, o + q * 3, none⟩ = some (.int .i64 (es.getD q ((0, 0), 0)).1.1) := (HB.out.cell (p := ⟨b, o + q * 3, none⟩) (by show b < _; omega)).trans (hcell q (by omega) 0 (by omega))
      have k1 : wr.cell? ⟨b, o + q * 3 + 1, none⟩ = some (.int .i64 ((es.getD q ((0, 0), 0)).1.2 : Int)) := (HB.out.cell (p := ⟨b, o + q * 3 + 1, none⟩) (by show b < _; omega)).trans (hcell q (by omega) 1 (by omega))
      have k2 : wr.cell? ⟨b, o + q * 3 + 2, none⟩ = some (.int .i64 ((es.getD q ((0, 0), 0)).2 : Int)) := (HB.out.cell (p := ⟨b, o + q * 3 + 2, none⟩) (by show b < _; omega)).trans (hcell q (by omega) 2 (by omega))
      have HQ := hid (HAT.out q (by omega))
      have HYQ := hid (HYE.out q (by omega) HALL.out)
      have HALL2 := hid (fun (h : reqB ((refsE es).getD q (0, 0)) (r1, r2) = false) (j : Nat) (hj : j < q + 1) => (show reqB ((refsE es).getD j (0, 0)) (r1, r2) = false from by
        rcases Nat.lt_or_ge j q with h3 | h3
        · exact HALL.out j h3
        · obtain rfl : j = q := by omega
          exact h))
      rw [HQ.out] at HYQ HALL2
      clear hcell HQ
      generalize es.getD q ((0, 0), 0) = en at *
      obtain ⟨⟨ti, ki⟩, sz⟩ := en
      simp only at k0 k1 k2 HYQ HALL2
      have HC := hid (HCL.out wr HB.out ti ki sz)
      have hwz := HB.out.size
      generalize hf : reqB (ti, (ki : Int)) (r1, r2) = f at *
      clear hf
      go_wp2_with fail
      with_reducible refine HC.out.mono ?_
      rintro e w1 ⟨rfl, hb1⟩
      have HB2 := hid (HB.out.trans (hb1.mono hwz))
      clear hb1 k0 k1 k2
      cases f
      · go_wp2
        go_roundg (gk - 1)
        case rel => exact ⟨q + 1, by omega, by go_num, HB2, hid (HALL2.out (by trivial))⟩
        case measure => omega
      · go_wp2
        go_ret
        exact ⟨ret_int (by rw [HYQ.out (by trivial)]; simp), HB2.out⟩
    · obtain rfl : q = n := by omega
      go_wp2
      go_ret
      exact ⟨ret_int (by rw [HNO.out HALL.out]), HB.out⟩

set_option maxHeartbeats 1000000 in
theorem posting_Column (ix : Ix) (ev vv lv : Value) (r1 r2 : Int) (B : Nat) (w : World) (hx : RdIx w (· < B) ev vv lv ix) (hB : B ≤ w.heap.size) (hl : ix.ents.length ≤ 1048576) :
    Calls Tryd.prog 12 #[.agg #[ev, vv, lv], .agg #[.int .i64 r1, .int .i64 r2]] w (Ret w (.int .i64 (findR (refsE ix.ents) (r1, r2) 0))) := by
  obtain ⟨hE, ⟨va, vc, rfl, -⟩, lf, ⟨la, lc, rfl, -⟩, -⟩ := hx
  have HB0 : Hid (Below w.heap.size w ((w.alloc (.cells #[ev, .slice va ix.vals.length vc, .slice la ix.lists.length lc] 30)).alloc (.cells #[.int .i64 r1, .int .i64 r2] 35))) := hid (by have := Below.refl w.heap.size w; repeat' (first | (with_reducible exact Below.refl _ _) | (with_reducible assumption) | (with_reducible refine below_drewN ?_) | (with_reducible refine Below.alloc ?_ ?_ _) | (with_reducible refine Below.drew ?_) | (with_reducible refine Below.setCell ?_ ?_ _) | (with_reducible refine Below.trans ?_ (Below.mono (by with_reducible assumption) ?_)) | go_size))
  have hr := BoxN.new (w.alloc (.cells #[ev, .slice va ix.vals.length vc, .slice la ix.lists.length lc] 30)) #[.int .i64 r1, .int .i64 r2] 35
  rw [World.size_alloc] at hr
  have HI := hid (lib_IndexFunc ev ix.ents r1 r2 (w.heap.size + 1) B _ (hE.keep fun p (hp : p.block < B) => HB0.out.cell (p := p) (by omega)) (Nat.le_trans hB HB0.out.size) hl (hr.cell 0 rfl) (hr.cell 1 rfl))
  obtain ⟨ea, ec, rfl, -⟩ := hE
  clear hr
  generalize findR (refsE ix.ents) (r1, r2) 0 = R at *
  generalize ix.ents.length = n1 at *
  generalize ix.vals.length = n2 at *
  generalize ix.lists.length = n3 at *
  go_enter Tryd.func12, Tryd.ntmps12
  go_wp2_with fail
  with_reducible refine HI.out.mono ?_
  rintro e w1 ⟨rfl, hb1⟩
  have HB1 := hid (HB0.out.trans (hb1.mono HB0.out.size))
  clear hb1
  go_wp2
  go_ret
  exact ⟨rfl, HB1.out⟩

end Go.Proofs.YtabemneoobbnaaaDoor
