/- Contracts of posting.Column, Entries, List. Contract of posting.sets: the columns of an index. Contract of posting.sets: the walk. -/
import Derived.Test.YtabemneoobbnaaaGreatDoorNq
import Derived.Test.YtabemneoobbnaaaGreatDoorGt
namespace Go.Proofs.YtabemneoobbnaaaGreatDoor
open Go.RowKit

set_option maxHeartbeats 1000000 in
theorem posting_Entries (ix : Ix) (ev vv lv : Value) (B : Nat) (w : World) (hx : RdIx w (· < B) ev vv lv ix) (hB : B ≤ w.heap.size) (hm : (ix.lists.map List.length).sum ≤ 1099511627776) :
    Calls Tryz.prog 27 #[.agg #[ev, vv, lv]] w (Ret w (.int .i64 (((ix.lists.map List.length).sum : Nat) : Int))) := by
  obtain ⟨⟨ea, ec, rfl, -⟩, ⟨va, vc, rfl, -⟩, lf, ⟨la, lc, rfl, hlc, hlm, hlr⟩, hkids⟩ := hx
  have HLR := hid hlr
  have HKI : Hid (∀ i, i < ix.lists.length → ∃ a c, lf i = .slice a (ix.lists.getD i []).length c) := hid (fun i hi => by
    obtain ⟨a, c, e, -⟩ := hkids i hi
    exact ⟨a, c, e⟩)
  have HSU : Hid (∀ k, k < ix.lists.length → ((ix.lists.take (k + 1)).map List.length).sum = ((ix.lists.take k).map List.length).sum + (ix.lists.getD k []).length) := hid (fun k hk => by
    rw [List.take_succ_eq_append_getElem hk, List.map_append, List.sum_append]
    simp [List.getD, hk])
  have HLE : Hid (∀ k, ((ix.lists.take k).map List.length).sum ≤ (ix.lists.map List.length).sum) := hid (fun k => by
    have e : (ix.lists.map List.length).sum = ((ix.lists.take k).map List.length).sum + ((ix.lists.drop k).map List.length).sum := by
      rw [← List.sum_append, ← List.map_append, List.take_append_drop]
    omega)
  have HAL : Hid ((ix.lists.map List.length).sum = ((ix.lists.take ix.lists.length).map List.length).sum) := hid (by rw [List.take_length])
  clear hlr hkids
  generalize (ix.lists.map List.length).sum = R at *
  generalize ix.ents.length = n1 at *
  generalize ix.vals.length = n2 at *
  generalize hn : ix.lists.length = n at *
  clear hn
  unfold maxLen at hlm
  go_enter Tryz.func27, Tryz.ntmps27
  go_wp2_with fail
  have HB0 := hid ((Below.refl w.heap.size w).alloc (Nat.le_refl _) (.cells #[.slice ea n1 ec, .slice va n2 vc, .slice la n lc] 40))
  generalize w.alloc (.cells #[.slice ea n1 ec, .slice va n2 vc, .slice la n lc] 40) = W0 at *
  go_loopg [3, 9] n (fun N v i wr => ∃ q : Nat, q + N = n ∧ i = .int .i64 (q : Int) ∧ v = .int .i64 ((((ix.lists.take q).map List.length).sum : Nat) : Int) ∧ wr = W0)
  case atStart => exact ⟨0, by omega, rfl, by simp, rfl⟩
  case round =>
    obtain ⟨q, hq, rfl, rfl, rfl⟩ := hrel
    have hle := HLE.out q
    by_cases hp : 0 < gk
    · obtain ⟨b, o, rfl, hb, hcell⟩ := HLR.out (by omega)
      have hb' : b < B := hb
      obtain ⟨xa, xc, e1⟩ := HKI.out q (by omega)
      have k0 : wr.cell? ⟨b, o + q, none⟩ = some (lf q) := (HB0.out.cell (p := ⟨b, o + q, none⟩) (by show b < _; omega)).trans (by have := hcell q (by omega) 0 (by omega); simpa using this)
      rw [e1] at k0
      have hle2 := HLE.out (q + 1)
      have HS := hid (HSU.out q (by omega))
      rw [HS.out] at hle2
      clear hcell e1
      generalize (ix.lists.getD q []).length = m at *
      generalize ((ix.lists.take q).map List.length).sum = S at *
      go_wp2
      go_roundg (gk - 1)
      case rel => exact ⟨q + 1, by omega, by go_num, by rw [HS.out]; go_num, rfl⟩
      case measure => omega
    · obtain rfl : q = n := by omega
      rw [← HAL.out]
      go_wp2
      go_ret
      exact ⟨rfl, HB0.out⟩

/-- two references are one -/
def reqB (a b : Int × Int) : Bool := decide (a.1 = b.1) && decide (a.2 = b.2)

set_option maxHeartbeats 1000000 in
theorem posting_Column1 (e1 e2 e3 r1 r2 : Int) (rb : Nat) (w : World) (h1 : w.cell? ⟨rb, 0, none⟩ = some (.int .i64 r1)) (h2 : w.cell? ⟨rb, 1, none⟩ = some (.int .i64 r2)) :
    Calls Tryz.prog 54 #[.agg #[.int .i64 e1, .int .i64 e2, .int .i64 e3], .pointer (some ⟨rb, 0, none⟩)] w (Ret w (.bool (reqB (e1, e2) (r1, r2)))) := by
  have hrl := World.block_lt_of_cell? _ _ h1
  have n1 : (w.alloc (.cells #[.int .i64 e1, .int .i64 e2, .int .i64 e3] 49)).cell? ⟨rb, 0, none⟩ = some (.int .i64 r1) := (World.cell?_alloc_lt _ _ _ hrl).trans h1
  have n2 : (w.alloc (.cells #[.int .i64 e1, .int .i64 e2, .int .i64 e3] 49)).cell? ⟨rb, 1, none⟩ = some (.int .i64 r2) := (World.cell?_alloc_lt _ _ _ (by exact hrl)).trans h2
  go_enter Tryz.func54, Tryz.ntmps54
  have HRQ : Hid (reqB (e1, e2) (r1, r2) = (decide (e1 = r1) && decide (e2 = r2))) := hid rfl
  generalize reqB (e1, e2) (r1, r2) = q at *
  go_wp2
  all_goals
    go_ret
    exact ⟨ret_bool (by rw [HRQ.out]; simp [*]), by have := Below.refl w.heap.size w; repeat' (first | (with_reducible exact Below.refl _ _) | (with_reducible assumption) | (with_reducible refine below_drewN ?_) | (with_reducible refine Below.alloc ?_ ?_ _) | (with_reducible refine Below.drew ?_) | (with_reducible refine Below.setCell ?_ ?_ _) | (with_reducible refine Below.trans ?_ (Below.mono (by with_reducible assumption) ?_)) | go_size)⟩

/-- the place of a reference, or -1 -/
def findR : List (Int × Int) → Int × Int → Nat → Int
  | [], _, _ => -1
  | a :: l, r, k => if reqB a r = true then (k : Int) else findR l r (k + 1)
theorem findR_none : ∀ (l : List (Int × Int)) (r : Int × Int) (k : Nat), (∀ j, j < l.length → reqB (l.getD j (0, 0)) r = false) → findR l r k = -1
  | [], _, _, _ => rfl
  | a :: l, r, k, h => by
    have h0 := h 0 (by simp)
    simp at h0
    rw [findR, h0, if_neg (by simp)]
    exact findR_none l r (k + 1) fun j hj => by have := h (j + 1) (by simp; omega); simpa using this
theorem findR_at : ∀ (l : List (Int × Int)) (r : Int × Int) (k j : Nat), j < l.length → (∀ i, i < j → reqB (l.getD i (0, 0)) r = false) → reqB (l.getD j (0, 0)) r = true → findR l r k = ((k + j : Nat) : Int)
  | [], _, _, _, h, _, _ => by simp at h
  | a :: l, r, k, 0, _, _, h => by
    simp at h
    rw [findR, h, if_pos rfl]
    rfl
  | a :: l, r, k, j + 1, hj, h1, h2 => by
    have h0 := h1 0 (by omega)
    simp at h0
    rw [findR, h0, if_neg (by simp), findR_at l r (k + 1) j (by simpa using hj) (fun i hi => by have := h1 (i + 1) (by omega); simpa using this) (by simpa using h2)]
    congr 1
    omega
def refsE (es : List ((Int × Nat) × Nat)) : List (Int × Int) := es.map fun e => (e.1.1, (e.1.2 : Int))
theorem refsE_at {es : List ((Int × Nat) × Nat)} {i : Nat} (h : i < es.length) : (refsE es).getD i (0, 0) = ((es.getD i ((0, 0), 0)).1.1, ((es.getD i ((0, 0), 0)).1.2 : Int)) := by simp [refsE, List.getD, h]

set_option maxRecDepth 100000 in
set_option maxHeartbeats 1000000 in
theorem lib_IndexFunc (ev : Value) (es : List ((Int × Nat) × Nat)) (r1 r2 : Int) (rb B : Nat) (w : World) (hv : InK 3 w (· < B) ev es.length (entF es)) (hB : B ≤ w.heap.size) (hl : es.length ≤ 1048576)
    (h1 : w.cell? ⟨rb, 0, none⟩ = some (.int .i64 r1)) (h2 : w.cell? ⟨rb, 1, none⟩ = some (.int .i64 r2)) :
    Calls Tryz.prog 53 #[ev, .func (.func 54) #[] #[.pointer (some ⟨rb, 0, none⟩)]] w (Ret w (.int .i64 (findR (refsE es) (r1, r2) 0))) := by
  have hrl := World.block_lt_of_cell? _ _ h1
  have HCL := hid (fun W (hW : Below w.heap.size w W) e1 e2 e3 => posting_Column1 e1 e2 e3 r1 r2 rb W ((hW.cell (p := ⟨rb, 0, none⟩) hrl).trans h1) ((hW.cell (p := ⟨rb, 1, none⟩) (by exact hrl)).trans h2))
  obtain ⟨a, k, rfl, hk, hm, hrd⟩ := hv
  have HRD := hid hrd
  have HAT := hid (fun i h => @refsE_at es i h)
  have hrel : (refsE es).length = es.length := by simp [refsE]
  have HNO := hid (findR_none (refsE es) (r1, r2) 0)
  have HYE := hid (findR_at (refsE es) (r1, r2) 0)
  rw [hrel] at HNO HYE
  clear hrd h1 h2 hrel
  generalize findR (refsE es) (r1, r2) 0 = R at *
  generalize hn : es.length = n at *
  clear hn
  unfold maxLen at hm
  go_enter Tryz.func53, Tryz.ntmps53
  go_wp2_with fail
  go_loopg [8] n (fun N i wr => ∃ q : Nat, q + N = n ∧ i = .int .i64 (q : Int) ∧ Hid (Below w.heap.size w wr) ∧ Hid (∀ j, j < q → reqB ((refsE es).getD j (0, 0)) (r1, r2) = false))
  case atStart => exact ⟨0, by omega, rfl, hid (Below.refl _ _), hid (fun j h => absurd h (by omega))⟩
  case round =>
    obtain ⟨q, hq, rfl, HB, HALL⟩ := hrel
    by_cases hp : 0 < gk
    · obtain ⟨b, o, rfl, hb, hcell⟩ := HRD.out (by omega)
      have hb' : b < B := hb
      have k0 : wr.cell? ⟨b, o + q * 3, none⟩ = some (.int .i64 (es.getD q ((0, 0), 0)).1.1) := (HB.out.cell (p := ⟨b, o + q * 3, none⟩) (by show b < _; omega)).trans (hcell q (by omega) 0 (by omega))
      have k1 : wr.cell? ⟨b, o + q * 3 + 1, none⟩ = some (.int .i64 ((es.getD q ((0, 0), 0)).1.2 : Int)) := (HB.out.cell (p := ⟨b, o + q * 3 + 1, none⟩) (by show b < _; omega)).trans (hcell q (by omega) 1 (by omega))
      have k2 : wr.cell? ⟨b, o + q * 3 + 2, none⟩ = some (.int .i64 ((es.getD q ((0, 0), 0)).2 : Int)) := (HB.out.cell (p := ⟨b, o + q * 3 + 2, none⟩) (by show b < _; omega)).trans (hcell q (by omega) 2 (by omega))
      have HQ := hid (HAT.out q (by omega))
      have HYQ := hid (HYE.out q (by omega) HALL.out)
      have HALL2 := hid (fun (h : reqB ((refsE es).getD q (0, 0)) (r1, r2) = false) (j : Nat) (hj : j < q + 1) => (show reqB ((refsE es).getD j (0, 0)) (r1, r2) = false from by
        rcases Nat.lt_or_ge j q with h3 | h3
        · exact HALL.out j h3
        · obtain rfl : j = q := by omega
          exact h))
      rw [HQ.out] at HYQ HALL2
      clear hcell HQ
      generalize es.getD q ((0, 0), 0) = en at *
      obtain ⟨⟨ti, ki⟩, sz⟩ := en
      simp only at k0 k1 k2 HYQ HALL2
      have HC := hid (HCL.out wr HB.out ti ki sz)
      have hwz := HB.out.size
      generalize hf : reqB (ti, (ki : Int)) (r1, r2) = f at *
      clear hf
      go_wp2_with fail
      with_reducible refine HC.out.mono ?_
      rintro e w1 ⟨rfl, hb1⟩
      have HB2 := hid (HB.out.trans (hb1.mono hwz))
      clear hb1 k0 k1 k2
      cases f
      · go_wp2
        go_roundg (gk - 1)
        case rel => exact ⟨q + 1, by omega, by go_num, HB2, hid (HALL2.out (by trivial))⟩
        case measure => omega
      · go_wp2
        go_ret
        exact ⟨ret_int (by rw [HYQ.out (by trivial)]; simp), HB2.out⟩
    · obtain rfl : q = n := by omega
      go_wp2
      go_ret
      exact ⟨ret_int (by rw [HNO.out HALL.out]), HB.out⟩

set_option maxHeartbeats 1000000 in
theorem posting_Column (ix : Ix) (ev vv lv : Value) (r1 r2 : Int) (B : Nat) (w : World) (hx : RdIx w (· < B) ev vv lv ix) (hB : B ≤ w.heap.size) (hl : ix.ents.length ≤ 1048576) :
    Calls Tryz.prog 24 #[.agg #[ev, vv, lv], .agg #[.int .i64 r1, .int .i64 r2]] w (Ret w (.int .i64 (findR (refsE ix.ents) (r1, r2) 0))) := by
  obtain ⟨hE, ⟨va, vc, rfl, -⟩, lf, ⟨la, lc, rfl, -⟩, -⟩ := hx
  have HB0 : Hid (Below w.heap.size w ((w.alloc (.cells #[ev, .slice va ix.vals.length vc, .slice la ix.lists.length lc] 40)).alloc (.cells #[.int .i64 r1, .int .i64 r2] 47))) := hid (by have := Below.refl w.heap.size w; repeat' (first | (with_reducible exact Below.refl _ _) | (with_reducible assumption) | (with_reducible refine below_drewN ?_) | (with_reducible refine Below.alloc ?_ ?_ _) | (with_reducible refine Below.drew ?_) | (with_reducible refine Below.setCell ?_ ?_ _) | (with_reducible refine Below.trans ?_ (Below.mono (by with_reducible assumption) ?_)) | go_size))
  have hr := BoxN.new (w.alloc (.cells #[ev, .slice va ix.vals.length vc, .slice la ix.lists.length lc] 40)) #[.int .i64 r1, .int .i64 r2] 47
  rw [World.size_alloc] at hr
  have HI := hid (lib_IndexFunc ev ix.ents r1 r2 (w.heap.size + 1) B _ (hE.keep fun p (hp : p.block < B) => HB0.out.cell (p := p) (by omega)) (Nat.le_trans hB HB0.out.size) hl (hr.cell 0 rfl) (hr.cell 1 rfl))
  obtain ⟨ea, ec, rfl, -⟩ := hE
  clear hr
  generalize findR (refsE ix.ents) (r1, r2) 0 = R at *
  generalize ix.ents.length = n1 at *
  generalize ix.vals.length = n2 at *
  generalize ix.lists.length = n3 at *
  go_enter Tryz.func24, Tryz.ntmps24
  go_wp2_with fail
  with_reducible refine HI.out.mono ?_
  rintro e w1 ⟨rfl, hb1⟩
  have HB1 := hid (HB0.out.trans (hb1.mono HB0.out.size))
  clear hb1
  go_wp2
  go_ret
  exact ⟨rfl, HB1.out⟩

end Go.Proofs.YtabemneoobbnaaaGreatDoor

namespace Go.Proofs.YtabemneoobbnaaaGreatDoor
open Go.RowKit

theorem info_set : (Tryz.prog.info? 96).map (fun i => (i.zero, i.size, i.bytes)) = some (some (.agg #[.int .i64 0, .int .i64 0, .slice none 0 0]), 3, 40) := by kernel_rfl
theorem made_sets (n : Nat) (h : n ≤ 1048576) (w : World) :
    (Instr.makeSlice 94 (.int .i64 (n : Int)) (.int .i64 (n : Int))).run Tryz.prog w = .ok (.slice (some ⟨w.heap.size, 0, none⟩) n n) (w.alloc (.cells (madeCells #[.int .i64 0, .int .i64 0, .slice none 0 0] (n * 3)) 96)) := by
  obtain ⟨i, hi, hz, hs, hb⟩ := info_parts info_set
  have hr := run_make (P := Tryz.prog) w 94 96 i _ Tryz.underlying94 hi hz .i64 .i64 n n (by omega) (Int.le_refl _) (by rw [hb]; omega) (by omega)
  simp only [Int.toNat_natCast, hs, Value.cells] at hr
  exact hr

def setF (rs : Nat → Int × Nat) (f : Nat → Value) (idx : Nat) : Value := three (.int .i64 (rs (idx / 3)).1) (.int .i64 ((rs (idx / 3)).2 : Int)) (f (idx / 3)) (idx % 3)
theorem setF0 (rs : Nat → Int × Nat) (f : Nat → Value) (i : Nat) : setF rs f (i * 3) = .int .i64 (rs i).1 := by
  unfold setF; rw [show i * 3 / 3 = i by omega, show i * 3 % 3 = 0 by omega]; rfl
theorem setF1 (rs : Nat → Int × Nat) (f : Nat → Value) (i : Nat) : setF rs f (i * 3 + 1) = .int .i64 ((rs i).2 : Int) := by
  unfold setF; rw [show (i * 3 + 1) / 3 = i by omega, show (i * 3 + 1) % 3 = 1 by omega]; rfl
theorem setF2 (rs : Nat → Int × Nat) (f : Nat → Value) (i : Nat) : setF rs f (i * 3 + 2) = f i := by
  unfold setF; rw [show (i * 3 + 2) / 3 = i by omega, show (i * 3 + 2) % 3 = 2 by omega]; rfl
theorem setF_ext {rs rs' : Nat → Int × Nat} {f f' : Nat → Value} {n : Nat} {g : Nat → Value} (h0 : ∀ i, i < n → g (i * 3) = .int .i64 (rs i).1) (h1 : ∀ i, i < n → g (i * 3 + 1) = .int .i64 ((rs i).2 : Int)) (h2 : ∀ i, i < n → g (i * 3 + 2) = f i) :
    ∀ idx, idx < n * 3 → g idx = setF rs f idx := by
  intro idx hi
  have hq : idx / 3 < n := by omega
  rcases (show idx % 3 = 0 ∨ idx % 3 = 1 ∨ idx % 3 = 2 by omega) with e | e | e
  · have e1 : idx = idx / 3 * 3 := by omega
    rw [e1, h0 _ hq, setF0]
  · have e1 : idx = idx / 3 * 3 + 1 := by omega
    rw [e1, h1 _ (by omega), setF1]
  · have e1 : idx = idx / 3 * 3 + 2 := by omega
    rw [e1, h2 _ (by omega), setF2]

/-- columns that are filled -/
structure FillSt (w0 w : World) (ob n : Nat) (rs : Nat → Int × Nat) (f : Nat → Value) (ss : Nat → List ByteArray) : Prop where
  row : w.rowIs ob 96 (n * 3) (setF rs f)
  own : ∀ i, i < n → w.ownsRow (ob + 1) 9 1 (f i) (ss i).length ((ss i).map Value.string)
  apart : ∀ i j, i < n → j < n → i ≠ j → (f i).ownBlock = none ∨ (f i).ownBlock ≠ (f j).ownBlock
  below : Below w0.heap.size w0 w
  low : w0.heap.size ≤ ob
section
variable {w0 w w' : World} {ob n : Nat} {rs : Nat → Int × Nat} {f : Nat → Value} {ss : Nat → List ByteArray}
theorem FillSt.later (h : FillSt w0 w ob n rs f ss) (hb : Below w.heap.size w w') : FillSt w0 w' ob n rs f ss :=
  ⟨h.row.of_block (hb.block ob h.row.lt), fun i hi => own_roll (h.own i hi) (Roll.of_below hb 0) (Nat.le_refl _) (by omega), h.apart, h.below.trans (hb.mono h.below.size), h.low⟩
theorem FillSt.ref (h : FillSt w0 w ob n rs f ss) {i : Nat} (hi : i < n) (x : Int × Nat) :
    FillSt w0 ((w.setCell ⟨ob, i * 3, none⟩ (.int .i64 x.1)).setCell ⟨ob, i * 3 + 1, none⟩ (.int .i64 (x.2 : Int))) ob n (fun j => if j = i then x else rs j) f ss := by
  refine ⟨((h.row.set (i * 3) _).set (i * 3 + 1) _).congr (setF_ext (rs' := rs) (f' := f) ?_ ?_ ?_), fun j hj => ownsRow_setCell_below (ownsRow_setCell_below (h.own j hj) (Nat.lt_succ_self ob) _) (Nat.lt_succ_self ob) _, h.apart, ?_, h.low⟩
  · intro j hj
    by_cases e : j = i
    · subst e; rw [if_neg (by omega), if_pos rfl, if_pos rfl]
    · rw [if_neg (by omega), if_neg (by omega), if_neg e, setF0]
  · intro j hj
    by_cases e : j = i
    · subst e; rw [if_pos rfl, if_pos rfl]
    · rw [if_neg (by omega), if_neg (by omega), if_neg e, setF1]
  · intro j hj
    rw [if_neg (by omega), if_neg (by omega), setF2]
  · exact (h.below.setCell (p := ⟨ob, i * 3, none⟩) h.low _).setCell (p := ⟨ob, i * 3 + 1, none⟩) h.low _
theorem FillSt.push (h : FillSt w0 w ob n rs f ss) {c : Nat} (hc : c < n) (s : ByteArray) {p m cap : Nat} (hm : m = (ss c).length + 1)
    (hown : w'.ownsRow (ob + 1) 9 1 (.slice (some ⟨p, 0, none⟩) m cap) m ((ss c).map Value.string ++ [.string s])) (hg : w.grownBy w' (f c).ownBlock) (hat : (f c).ownBlock = some p ∨ p = w.heap.size) :
    FillSt w0 (w'.setCell ⟨ob, c * 3 + 2, none⟩ (.slice (some ⟨p, 0, none⟩) m cap)) ob n rs (fun j => if j = c then .slice (some ⟨p, 0, none⟩) m cap else f j) (fun j => if j = c then ss c ++ [s] else ss j) := by
  have hlt := h.row.lt
  have hv : ∀ k, (f c).ownBlock = some k → ob + 1 ≤ k ∧ k < w.heap.size := fun k hk => (h.own c hc).lt k hk
  have hx : ∀ k, k < ob + 1 → w'.heap[k]? = w.heap[k]? := fun k hk => hg.block k (by omega) (fun e => by have := (hv k e.symm).1; omega)
  have hnb : (Value.slice (some ⟨p, 0, none⟩) m cap).ownBlock = some p := rfl
  have hap : ∀ j, j < n → j ≠ c → (f j).ownBlock = none ∨ (f j).ownBlock ≠ some p := fun j hj hjc => by
    rcases hat with h1 | h1
    · rw [← h1]; exact h.apart j c hj hc hjc
    · cases hb : (f j).ownBlock with
      | none => exact .inl rfl
      | some k =>
        right
        intro e
        have := ((h.own j hj).lt k hb).2
        injection e with e
        omega
  refine ⟨((h.row.of_block (hx ob (Nat.lt_succ_self _))).set (c * 3 + 2) _).congr (setF_ext (rs' := rs) (f' := f) ?_ ?_ ?_), fun j hj => ?_, fun i j hi hj hij => ?_, ?_, h.low⟩
  · intro j hj
    rw [if_neg (by omega), setF0]
  · intro j hj
    rw [if_neg (by omega), setF1]
  · intro j hj
    by_cases e : j = c
    · subst e; rw [if_pos rfl, if_pos rfl]
    · rw [if_neg (by omega), if_neg e, setF2]
  · by_cases e : j = c
    · subst e
      rw [if_pos rfl, if_pos rfl, List.length_append, List.length_singleton, ← hm, List.map_append]
      exact ownsRow_setCell_below hown (Nat.lt_succ_self ob) _
    · rw [if_neg e, if_neg e]
      exact ownsRow_setCell_below ((h.own j hj).kept hg (h.apart j c hj hc e)) (Nat.lt_succ_self ob) _
  · by_cases e : i = c
    · have e2 : j ≠ c := fun h2 => hij (by rw [e, h2])
      rw [if_pos e, if_neg e2, hnb]
      right
      intro h3
      rcases hap j hj e2 with h4 | h4
      · rw [h4] at h3; cases h3
      · exact h4 h3.symm
    · rw [if_neg e]
      by_cases e2 : j = c
      · rw [if_pos e2, hnb]; exact hap i hi e
      · rw [if_neg e2]; exact h.apart i j hi hj hij
  · have hb1 : Below w0.heap.size w0 w' := h.below.trans ⟨hg.os, hg.tape, hg.output, hg.size, fun k hk => hx k (by have := h.low; omega)⟩
    exact hb1.setCell (p := ⟨ob, c * 3 + 2, none⟩) h.low _
end

end Go.Proofs.YtabemneoobbnaaaGreatDoor

namespace Go.Proofs.YtabemneoobbnaaaGreatDoor
open Go.RowKit

theorem made_setF (w : World) (n : Nat) (t : TypeId) : (w.alloc (.cells (madeCells #[.int .i64 0, .int .i64 0, .slice none 0 0] (n * 3)) t)).rowIs w.heap.size t (n * 3) (setF (fun _ => (0, 0)) (fun _ => .slice none 0 0)) := by
  have h := World.rowIs_alloc w (madeCells #[.int .i64 0, .int .i64 0, .slice none 0 0] (n * 3)) t (setF (fun _ => (0, 0)) (fun _ => .slice none 0 0)) (fun i hi => by
    rw [size_madeCells] at hi
    unfold setF
    rcases (show i % 3 = 0 ∨ i % 3 = 1 ∨ i % 3 = 2 by omega) with e | e | e <;> simp [madeCells, hi, e, three])
  rwa [size_madeCells] at h

section
variable {w0 w w' : World} {ob n : Nat} {rs rs' : Nat → Int × Nat} {f : Nat → Value} {ss ss' : Nat → List ByteArray}
theorem FillSt.congr (h : FillSt w0 w ob n rs f ss) (hr : ∀ i, i < n → rs i = rs' i) (hs : ∀ i, i < n → ss i = ss' i) : FillSt w0 w ob n rs' f ss' :=
  ⟨h.row.congr (setF_ext (rs := rs') (f := f) (rs' := rs') (f' := f) (fun i hi => by rw [setF0, hr i hi]) (fun i hi => by rw [setF1, hr i hi]) (fun i _ => by rw [setF2])), fun i hi => by rw [← hs i hi]; exact h.own i hi, h.apart, h.below, h.low⟩
theorem FillSt.start (w0 : World) (n : Nat) : FillSt w0 (w0.alloc (.cells (madeCells #[.int .i64 0, .int .i64 0, .slice none 0 0] (n * 3)) 96)) w0.heap.size n (fun _ => (0, 0)) (fun _ => .slice none 0 0) (fun _ => []) :=
  ⟨made_setF w0 n _, fun _ _ => World.ownsRow_nil _ _ _ _, fun _ _ _ _ _ => .inl rfl, (Below.refl _ _).alloc (Nat.le_refl _) _, Nat.le_refl _⟩
theorem FillSt.done (h : FillSt w0 w ob n rs f ss) {cs : List Cv} (hn : cs.length = n) (hm : n ≤ 1048576) (hr : ∀ i, i < n → rs i = (cs.getD i Cv.z).1) (hs : ∀ i, i < n → ss i = (cs.getD i Cv.z).2) : CvSt w ob 96 (.slice (some ⟨ob, 0, none⟩) n n) cs := by
  subst hn
  have h1 := h.congr hr hs
  clear hr hs h
  obtain ⟨c, hb, hc, hx⟩ := h1.row
  refine ⟨f, ⟨?_, Nat.le_of_lt h1.row.lt, fun i hi => ?_⟩⟩
  · refine ⟨flatK_len _ _ _, .inr ⟨ob, cs.length, c, rfl, Nat.le_refl _, hb, Nat.le_refl _, by unfold maxLen; omega, hc, ?_⟩⟩
    apply List.ext_getElem?
    intro i
    by_cases hi : i < cs.length * 3
    · have h2 := flatK_at (f := cvF cs f) (k := 3) (i := i / 3) (j := i % 3) (show i / 3 < cs.length by omega) (by omega)
      rw [show i / 3 * 3 + i % 3 = i by omega] at h2
      rw [h2, List.getElem?_take_of_lt hi, Array.getElem?_toList, hx i hi]
      rfl
    · rw [List.getElem?_eq_none (by simp [hc]; omega), List.getElem?_eq_none (by rw [flatK_len]; omega)]
  · refine InK.more (inS_of_own (h1.own i hi)) fun b hb => ?_
    have h2 := (h1.own i hi).lt b hb
    exact ⟨by omega, h2.2, fun e => by have e2 : ob = b := by simpa [Value.ownBlock] using e
                                       omega⟩
theorem FillSt.form (h : FillSt w0 w ob n rs f ss) {i : Nat} (hi : i < n) : ∃ a c, f i = .slice a (ss i).length c := own_slice (h.own i hi)
end

/-- the values of a column so far -/
def fillS (cs : List Cv) (vs : List ByteArray) (X : List Nat) (s : ByteArray) (k j : Nat) : List ByteArray := vs.filter (hasL (cs.getD j Cv.z).2) ++ if (X.take k).contains j = true then [s] else []
theorem fillS_zero (cs : List Cv) (vs : List ByteArray) (X : List Nat) (s : ByteArray) (j : Nat) : vs.filter (hasL (cs.getD j Cv.z).2) = fillS cs vs X s 0 j := by simp [fillS]
theorem fillS_step {cs : List Cv} {vs : List ByteArray} {X : List Nat} {s : ByteArray} {k : Nat} (hX : X.Pairwise (· < ·)) (hk : k < X.length) (j : Nat) :
    (if j = X.getD k 0 then fillS cs vs X s k (X.getD k 0) ++ [s] else fillS cs vs X s k j) = fillS cs vs X s (k + 1) j := by
  have e1 : X.getD k 0 = X[k] := by simp [List.getD, hk]
  have hno : (X.take k).contains X[k] = false := by
    rw [List.contains_eq_mem, decide_eq_false_iff_not]
    intro h
    obtain ⟨i, hi, e⟩ := List.mem_iff_getElem.1 h
    rw [List.length_take] at hi
    rw [List.getElem_take] at e
    have := List.pairwise_iff_getElem.1 hX i k (by omega) hk (by omega)
    omega
  have e2 : ∀ j, (X.take (k + 1)).contains j = ((X.take k).contains j || decide (j = X[k])) := fun j => by
    rw [List.take_succ_eq_append_getElem hk, List.contains_eq_mem, List.contains_eq_mem]
    rw [Bool.eq_iff_iff, Bool.or_eq_true, decide_eq_true_iff, decide_eq_true_iff, decide_eq_true_iff, List.mem_append, List.mem_singleton]
  rw [e1]
  by_cases e : j = X[k]
  · subst e
    rw [if_pos rfl]
    unfold fillS
    rw [e2, hno]
    simp
  · rw [if_neg e]
    unfold fillS
    rw [e2]
    simp [e]
theorem fillS_len (cs : List Cv) (vs : List ByteArray) (X : List Nat) (s : ByteArray) (k j : Nat) : (fillS cs vs X s k j).length ≤ vs.length + 1 := by
  unfold fillS
  rw [List.length_append]
  have := List.length_filter_le (hasL (cs.getD j Cv.z).2) vs
  split
  · rw [List.length_singleton]; omega
  · rw [List.length_nil]; omega
theorem fillS_end {cs : List Cv} {vs : List ByteArray} {q : Nat} (hq : q < vs.length) {j : Nat} (hj : j < cs.length) :
    fillS cs (vs.take q) (listOfV cs (vs.getD q ⟨#[]⟩)) (vs.getD q ⟨#[]⟩) (listOfV cs (vs.getD q ⟨#[]⟩)).length j = (vs.take (q + 1)).filter (hasL (cs.getD j Cv.z).2) := by
  unfold fillS
  rw [List.take_length, List.take_succ_eq_append_getElem hq, List.filter_append]
  congr 1
  have e1 : vs.getD q ⟨#[]⟩ = vs[q] := by simp [List.getD, hq]
  rw [e1, List.filter_cons, List.filter_nil, List.contains_eq_mem]
  by_cases h : hasL (cs.getD j Cv.z).2 vs[q] = true
  · rw [if_pos h, if_pos (by rw [decide_eq_true_iff]; exact listOfV_mem.2 ⟨hj, h⟩)]
  · rw [if_neg h, if_neg (by rw [decide_eq_true_iff]; exact fun hm => h (listOfV_mem.1 hm).2)]

end Go.Proofs.YtabemneoobbnaaaGreatDoor
