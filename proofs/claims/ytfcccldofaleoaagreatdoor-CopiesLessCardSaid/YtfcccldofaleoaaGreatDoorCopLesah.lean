/- Contracts of the reference's Rows, equal, Project. Contract of the reference's Project. -/
import Derived.Test.YtfcccldofaleoaaGreatDoorCopLesaf
import Derived.Test.YtfcccldofaleoaaGreatDoorCopLesag
import Derived.Deep.RegionLawGrows
namespace Go.Proofs.YtfcccldofaleoaaGreatDoor
open Go.RowKit

theorem ref03_Rows (id : Int) (nm : ByteArray) (v : Value) (xs : List Co) (B : Nat) (w : World) (hv : RdCo w (· < B) v xs) (hB : B ≤ w.heap.size) :
    Calls Tryz.prog 23 #[.agg #[.int .i64 id, .string nm, v]] w (Ret w (.int .i64 (rowsC xs : Int))) := by
  obtain ⟨cv, ⟨a, c, rfl, hc, hm, hr⟩, hcl⟩ := hv
  have HR := hid hr
  have HC := hid hcl
  have hb0 : Below w.heap.size w (w.alloc (.cells #[.int .i64 id, .string nm, .slice a xs.length c] 24)) := (Below.refl _ _).alloc (Nat.le_refl _) _
  have HB0 := hid hb0
  have HZ : Hid (xs.length = 0 → rowsC xs = 0) := hid (fun h => by rw [List.eq_nil_of_length_eq_zero h]; rfl)
  have HL : Hid ((xs.getD 0 Co.z).cells.length = rowsC xs) := hid rfl
  clear hr hcl hb0
  generalize hxl : xs.length = n at *
  have HXL := hid hxl
  clear hxl
  unfold maxLen at hm
  by_cases h0 : n = 0
  · subst h0
    rw [HZ.out rfl]
    go_enter Tryz.func23, Tryz.ntmps23
    go_wp2
    go_ret
    exact ⟨rfl, HB0.out⟩
  · obtain ⟨b, o, rfl, hb, hcell⟩ := HR.out (by omega)
    have hbw : b < w.heap.size := by have : b < B := hb; omega
    have HQ := hid (HC.out 0 (by omega))
    obtain ⟨ca, cc, hcq, -, -, -⟩ := HC.out 0 (by omega)
    rw [HL.out] at hcq
    have k1 : w.cell? ⟨b, o + 1, none⟩ = some (cv 0) := by have := hcell 0 (by omega) 1 (by omega); simpa [coF, two] using this
    rw [hcq] at k1
    have k2 : (w.alloc (.cells #[.int .i64 id, .string nm, .slice (some ⟨b, o, none⟩) n c] 24)).cell? ⟨b, o + 1, none⟩ = some (.slice ca (rowsC xs) cc) := (World.cell?_alloc_lt _ _ _ (by exact hbw)).trans k1
    clear hcell hcq k1
    generalize rowsC xs = m at *
    have hn1 : (0 : Int) < (n : Int) := by omega
    have hn2 : 0 < n := by omega
    go_enter Tryz.func23, Tryz.ntmps23
    go_wp2
    go_ret
    exact ⟨rfl, HB0.out⟩


theorem cell_dec (a b : Cl) : (decide (a = b) = true ∧ (a.null == b.null) = true ∧ (a.text.toList == b.text.toList) = true) ∨ (decide (a = b) = false ∧ ((a.null == b.null) = false ∨ ((a.null == b.null) = true ∧ (a.text.toList == b.text.toList) = false))) := by
  by_cases h : a = b
  · subst h
    exact .inl ⟨decide_eq_true rfl, by simp, by simp⟩
  · refine .inr ⟨decide_eq_false h, ?_⟩
    by_cases hn : a.null = b.null
    · right
      refine ⟨by rw [hn]; simp, ?_⟩
      cases ht : (a.text.toList == b.text.toList) with
      | false => rfl
      | true =>
        obtain ⟨a1, a2⟩ := a
        obtain ⟨b1, b2⟩ := b
        simp only at hn ht
        subst hn
        exact absurd (by rw [bytes_ext (eq_of_beq ht)]) h
    · left
      simpa using hn

set_option maxRecDepth 100000 in
set_option maxHeartbeats 4000000 in
theorem ref38_equal (id : Int) (nm : ByteArray) (v : Value) (xs : List Co) (n x y B : Nat) (w : World) (hv : RdCo w (· < B) v xs) (hB : B ≤ w.heap.size) (hc : ∀ c ∈ xs, c.cells.length = n) (hx : x < n) (hy : y < n) (hn : n ≤ 1048576) :
    Calls Tryz.prog 129 #[.agg #[.int .i64 id, .string nm, v], .int .i64 (x : Int), .int .i64 (y : Int)] w (Ret w (.bool (eqRow xs x y))) := by
  obtain ⟨cv, ⟨a, c, rfl, hcc, hm, hr⟩, hcl⟩ := hv
  have HR := hid hr
  have HC := hid hcl
  have HN := hid (fun q (hq : q < xs.length) => hc _ (getD_mem hq Co.z))
  have HEQ : Hid (∀ q, q < xs.length → decide ((xs.getD q Co.z).cells.getD x Cl.z = (xs.getD q Co.z).cells.getD y Cl.z) = false → eqRow xs x y = false) := hid (fun q hq h => by
    rw [Bool.eq_false_iff]
    intro h2
    have := List.all_eq_true.1 h2 _ (getD_mem hq Co.z)
    rw [h] at this
    cases this)
  have HYES : Hid ((∀ q, q < xs.length → decide ((xs.getD q Co.z).cells.getD x Cl.z = (xs.getD q Co.z).cells.getD y Cl.z) = true) → eqRow xs x y = true) := hid (fun h => by
    refine List.all_eq_true.2 fun z hz => ?_
    obtain ⟨i, hi, rfl⟩ := List.getElem_of_mem hz
    have := h i hi
    rw [show xs.getD i Co.z = xs[i] by simp [List.getD, hi]] at this
    exact this)
  generalize eqRow xs x y = R at *
  have HB0 : Hid (Below w.heap.size w (w.alloc (.cells #[.int .i64 id, .string nm, .slice a xs.length c] 24))) := hid ((Below.refl _ _).alloc (Nat.le_refl _) _)
  have HX0 := hid (BoxN.new w #[.int .i64 id, .string nm, .slice a xs.length c] 24)
  clear hr hcl hc
  generalize hxl : xs.length = L at *
  clear hxl
  unfold maxLen at hm
  go_enter Tryz.func129, Tryz.ntmps129
  generalize hLA : Code.loop _ = LA
  go_wp2_with fail
  have hz0 : (w.alloc (.cells #[.int .i64 id, .string nm, .slice a L c] 24)).heap.size = w.heap.size + 1 := by simp
  generalize w.alloc (.cells #[.int .i64 id, .string nm, .slice a L c] 24) = W0 at *
  subst hLA
  go_loopg [12] L (fun N i wr => ∃ q : Nat, q + N = L ∧ i = .int .i64 (q : Int) ∧ Hid (Below W0.heap.size W0 wr) ∧ Hid (∀ j, j < q → decide ((xs.getD j Co.z).cells.getD x Cl.z = (xs.getD j Co.z).cells.getD y Cl.z) = true))
  case atStart => exact ⟨0, by omega, rfl, hid (Below.refl _ _), hid (fun j h => absurd h (by omega))⟩
  case round =>
    obtain ⟨q, hq, rfl, HB, HALL⟩ := hrel
    have hwz := HB.out.size
    by_cases hp : 0 < gk
    · obtain ⟨b, o, rfl, hb, hcell⟩ := HR.out (by omega)
      have hbw : b < B := hb
      have HBW := hid (HB0.out.trans (HB.out.mono (by omega)))
      have k0 : wr.cell? ⟨b, o + q * 2, none⟩ = some (.string (xs.getD q Co.z).name) := (HBW.out.cell (p := ⟨b, o + q * 2, none⟩) (by show b < w.heap.size; omega)).trans (hcell q (by omega) 0 (by omega))
      have k1 : wr.cell? ⟨b, o + q * 2 + 1, none⟩ = some (cv q) := (HBW.out.cell (p := ⟨b, o + q * 2 + 1, none⟩) (by show b < w.heap.size; omega)).trans (hcell q (by omega) 1 (by omega))
      have HRQ := hid (HC.out q (by omega))
      obtain ⟨ca, ck, hcq, hck1, hck2, hcell2⟩ := HC.out q (by omega)
      rw [HN.out q (by omega)] at hcq hcell2 hck1
      obtain ⟨b2, o2, rfl, hb2, hcell2⟩ := hcell2 (by omega)
      have hb2w : b2 < B := hb2
      have e0 : wr.cell? ⟨b2, o2 + x * 2, none⟩ = some (.bool ((xs.getD q Co.z).cells.getD x Cl.z).null) := (HBW.out.cell (p := ⟨b2, o2 + x * 2, none⟩) (by show b2 < w.heap.size; omega)).trans (hcell2 x hx 0 (by omega))
      have e1 : wr.cell? ⟨b2, o2 + x * 2 + 1, none⟩ = some (.string ((xs.getD q Co.z).cells.getD x Cl.z).text) := (HBW.out.cell (p := ⟨b2, o2 + x * 2 + 1, none⟩) (by show b2 < w.heap.size; omega)).trans (hcell2 x hx 1 (by omega))
      have e2 : wr.cell? ⟨b2, o2 + y * 2, none⟩ = some (.bool ((xs.getD q Co.z).cells.getD y Cl.z).null) := (HBW.out.cell (p := ⟨b2, o2 + y * 2, none⟩) (by show b2 < w.heap.size; omega)).trans (hcell2 y hy 0 (by omega))
      have e3 : wr.cell? ⟨b2, o2 + y * 2 + 1, none⟩ = some (.string ((xs.getD q Co.z).cells.getD y Cl.z).text) := (HBW.out.cell (p := ⟨b2, o2 + y * 2 + 1, none⟩) (by show b2 < w.heap.size; omega)).trans (hcell2 y hy 1 (by omega))
      rw [hcq] at k1
      have HEQ1 := hid (HEQ.out q (by omega))
      have HDEC := hid (cell_dec ((xs.getD q Co.z).cells.getD x Cl.z) ((xs.getD q Co.z).cells.getD y Cl.z))
      have HST : Hid (decide ((xs.getD q Co.z).cells.getD x Cl.z = (xs.getD q Co.z).cells.getD y Cl.z) = true → ∀ j, j < q + 1 → decide ((xs.getD j Co.z).cells.getD x Cl.z = (xs.getD j Co.z).cells.getD y Cl.z) = true) := hid (fun h j hj => by
        rcases Nat.lt_or_ge j q with h1 | h1
        · exact HALL.out j h1
        · obtain rfl : j = q := by omega
          exact h)
      clear hcell hcell2 hcq
      generalize (xs.getD q Co.z).name = xn at *
      generalize (xs.getD q Co.z).cells.getD x Cl.z = c1 at *
      generalize (xs.getD q Co.z).cells.getD y Cl.z = c2 at *
      obtain ⟨n1, s1⟩ := c1
      obtain ⟨n2, s2⟩ := c2
      simp only at e0 e1 e2 e3 HDEC
      have hx' : (x : Int) < n := by omega
      have hy' : (y : Int) < n := by omega
      have hcz : ∀ p : Addr, p.block < w.heap.size → (wr.alloc (.cells #[.string xn, .slice (some ⟨b2, o2, none⟩) n ck] 30)).cell? p = wr.cell? p := fun p hp => World.cell?_alloc_lt _ _ _ (by omega)
      have q0 := (hcz ⟨b2, o2 + x * 2, none⟩ (by show b2 < w.heap.size; omega)).trans e0
      have q1 := (hcz ⟨b2, o2 + x * 2 + 1, none⟩ (by show b2 < w.heap.size; omega)).trans e1
      have q2 := (hcz ⟨b2, o2 + y * 2, none⟩ (by show b2 < w.heap.size; omega)).trans e2
      have q3 := (hcz ⟨b2, o2 + y * 2 + 1, none⟩ (by show b2 < w.heap.size; omega)).trans e3
      clear hcz
      rcases HDEC.out with ⟨hd, h1, h2⟩ | ⟨hd, h1 | ⟨h1, h2⟩⟩
      · have HS2 := hid (HST.out hd)
        clear hd
        go_wp2
        go_region
        go_wp2
        go_roundg (gk - 1)
        case rel => exact ⟨q + 1, by omega, by go_num, hid (by have := HB.out; repeat' (first | (with_reducible exact Below.refl _ _) | (with_reducible assumption) | (with_reducible refine below_drewN ?_) | (with_reducible refine Below.alloc ?_ ?_ _) | (with_reducible refine Below.drew ?_) | (with_reducible refine Below.setCell ?_ ?_ _) | (with_reducible refine Below.trans ?_ (Below.mono (by with_reducible assumption) ?_)) | go_size)), HS2⟩
        case measure => omega
      · have HRF := hid (HEQ1.out hd)
        clear hd
        go_wp2
        go_region
        go_wp2
        go_ret
        exact ⟨ret_bool HRF.out.symm, by have := HBW.out; repeat' (first | (with_reducible exact Below.refl _ _) | (with_reducible assumption) | (with_reducible refine below_drewN ?_) | (with_reducible refine Below.alloc ?_ ?_ _) | (with_reducible refine Below.drew ?_) | (with_reducible refine Below.setCell ?_ ?_ _) | (with_reducible refine Below.trans ?_ (Below.mono (by with_reducible assumption) ?_)) | go_size)⟩
      · have HRF := hid (HEQ1.out hd)
        clear hd
        go_wp2
        go_region
        go_wp2
        go_ret
        exact ⟨ret_bool HRF.out.symm, by have := HBW.out; repeat' (first | (with_reducible exact Below.refl _ _) | (with_reducible assumption) | (with_reducible refine below_drewN ?_) | (with_reducible refine Below.alloc ?_ ?_ _) | (with_reducible refine Below.drew ?_) | (with_reducible refine Below.setCell ?_ ?_ _) | (with_reducible refine Below.trans ?_ (Below.mono (by with_reducible assumption) ?_)) | go_size)⟩
    · obtain rfl : gk = 0 := by omega
      obtain rfl : q = L := by omega
      have HRT := hid (HYES.out HALL.out)
      have HBW := hid (HB0.out.trans (HB.out.mono (by omega)))
      go_wp2
      go_ret
      exact ⟨ret_bool HRT.out.symm, HBW.out⟩

end Go.Proofs.YtfcccldofaleoaaGreatDoor

namespace Go.Proofs.YtfcccldofaleoaaGreatDoor
open Go.RowKit

/-- A box, one of whose fields is a row that grows. ws: the world in which the loop began. -/
structure GrowSt (w0 ws W : World) (cb base : Nat) (t : TypeId) (vs : Value → Array Value) (e : TypeId) (k : Nat) (v : Value) (n : Nat) (L : List Value) : Prop where
  bel : Below w0.heap.size w0 W
  box : BoxN W cb t (vs v)
  own : W.ownsRow base e k v n L
  low : base ≤ W.heap.size
  keep : ∀ i, i < base → i ≠ cb → W.heap[i]? = ws.heap[i]?
section
variable {w0 ws W W' : World} {cb base : Nat} {t : TypeId} {vs : Value → Array Value} {e : TypeId} {k : Nat} {v : Value} {n : Nat} {L : List Value}
theorem GrowSt.later (h : GrowSt w0 ws W cb base t vs e k v n L) (hb : Below W.heap.size W W') (hw : w0.heap.size ≤ W.heap.size) : GrowSt w0 ws W' cb base t vs e k v n L :=
  have hlo := h.low
  ⟨h.bel.trans (hb.mono hw), h.box.below hb h.box.lt, own_later h.own hb, Nat.le_trans h.low hb.size, fun i h1 h2 => (hb.block i (by omega)).trans (h.keep i h1 h2)⟩
theorem GrowSt.push (h : GrowSt w0 ws W cb base t vs e k v n L) {v' : Value} {m : Nat} {L' : List Value} (hown : W'.ownsRow base e k v' m L') (hgr : W.grownBy W' v.ownBlock) (i : Nat) (hi : (vs v).setIfInBounds i v' = vs v') (hcb : cb < base) (hc0 : w0.heap.size ≤ cb) :
    GrowSt w0 ws (W'.setCell ⟨cb, i, none⟩ v') cb base t vs e k v' m L' := by
  have hv : ∀ k, v.ownBlock = some k → base ≤ k := fun k hk => (h.own.lt k hk).1
  have hlo := h.low
  have hx : ∀ k, k < base → W'.heap[k]? = W.heap[k]? := fun k hk => hgr.block k (by omega) (fun e => by have := hv k e.symm; omega)
  have hb : Below w0.heap.size w0 W' := h.bel.trans ⟨hgr.os, hgr.tape, hgr.output, hgr.size, fun k hk => hx k (by omega)⟩
  have hbx := (show BoxN W' cb t (vs v) from (hx cb hcb).trans h.box).set i v'
  rw [hi] at hbx
  exact ⟨hb.setCell (p := ⟨cb, i, none⟩) hc0 _, hbx, ownsRow_setCell_below hown hcb _, by have := hgr.size; simp; omega, fun k h1 h2 => (Below.heap_setCell _ _ _ _ h2).trans ((hx k h1).trans (h.keep k h1 h2))⟩
end

theorem co_push {ys : List Co} {cw : Nat → Value} {x : Co} {u : Value} {q : Nat} (hq : ys.length = q) (hu : cw q = u) : flatK 2 q (coF ys cw) ++ [.string x.name, u] = flatK 2 (q + 1) (coF (ys ++ [x]) cw) := by
  subst hq
  refine flat_push (fun i hi j hj => ?_) ?_
  · simp [coF, List.getD, List.getElem?_append_left hi]
  · simp [coF, List.getD, List.range_succ, two, hu]
/-- columns in an own row, whose cells lie elsewhere -/
theorem rdco_shared {w0 W W' : World} {base B : Nat} {v : Value} {ys : List Co} {cw : Nat → Value} {n : Nat} (hn : ys.length = n) (hown : W.ownsRow base 30 2 v n (flatK 2 n (coF ys cw))) (hk : ∀ i, i < ys.length → RdCl w0 (· < B) (cw i) (ys.getD i Co.z).cells)
    (h1 : ∀ p : Addr, p.block < B → W'.cell? p = w0.cell? p) (h2 : ∀ p : Addr, base ≤ p.block → p.block < W.heap.size → W'.cell? p = W.cell? p) {w : World} (hwb : w.heap.size ≤ base) (hs : W.heap.size ≤ W'.heap.size) : RdCo W' (fun b => b < B ∨ News w W' b) v ys := by
  subst hn
  exact ⟨cw, (((inK_of_owns hown).more fun b hb => hown.lt b hb).keep (fun p hp => h2 p hp.1 hp.2)).more fun b hb => .inr ⟨Nat.le_trans hwb hb.1, Nat.lt_of_lt_of_le hb.2 hs⟩, fun i hi => ((hk i hi).keep h1).more fun b hb => .inl hb⟩
theorem projL_len (xs : List Co) (ks : List Int) : (projL xs ks).length = ks.length := by simp [projL]
theorem projL_at {xs : List Co} {ks : List Int} {i : Nat} (h : i < ks.length) : (projL xs ks).getD i Co.z = xs.getD (ks.getD i 0).toNat Co.z := by simp [projL, List.getD, h]
def PickedT (w : World) (B : Nat) (id : Int) (nm : ByteArray) (ys : List Co) (e : Ending) (w' : World) : Prop :=
  ∃ v, e = .returned (.tuple #[.agg #[.int .i64 id, .string nm, v], .int .i64 0]) ∧ RdCo w' (fun b => b < B ∨ News w w' b) v ys ∧ Below w.heap.size w w'
theorem projL_snoc {xs : List Co} {ks : List Int} {q : Nat} (h : q < ks.length) : projL xs (ks.take (q + 1)) = projL xs (ks.take q) ++ [xs.getD (ks.getD q 0).toNat Co.z] := by
  unfold projL
  rw [List.take_succ_eq_append_getElem h, List.map_append, List.map_singleton]
  simp [List.getD, h]

set_option maxRecDepth 100000 in
set_option maxHeartbeats 4000000 in
theorem ref03_Project (t : Ta) (v u : Value) (ks : List Int) (B : Nat) (w : World) (ht : TabV t) (hv : RdCo w (· < B) v t.cols) (hu : Rd w B u ks.length (intF ks)) (hB : B ≤ w.heap.size) (hT : Tabs w) (hk : ks.all (thereL t.cols.length) = true) (hk2 : ks.length ≤ 64) :
    Calls Tryz.prog 101 #[.agg #[.int .i64 t.id, .string t.name, v], u] w (PickedT w B t.id t.name (projL t.cols ks)) := by
  have HVL := hid (fun W (hW : Below w.heap.size w W) => ref_ValidTab t v B W ht (hv.keep fun p (hp : p.block < B) => hW.cell (p := p) (by omega)) (Nat.le_trans hB hW.size) (hT.below hW))
  obtain ⟨i0, hi, hz0, hz1, hz2⟩ := info_parts info_col
  obtain ⟨cv, hcv, hcl⟩ := hv
  obtain ⟨a, c, rfl, hcc, hm, hr⟩ := hcv
  obtain ⟨ua, uc, rfl, huc, hum, hur⟩ := hu
  have hxl64 : t.cols.length ≤ 64 := ht.2.2.2.1
  have HR := hid hr
  have HCL := hid hcl
  have HUR := hid hur
  have HKS : Hid (∀ q, q < ks.length → 0 ≤ ks.getD q 0 ∧ ks.getD q 0 < (t.cols.length : Int)) := hid (fun q hq => by
    have h1 := List.all_eq_true.1 hk _ (getD_mem hq 0)
    unfold thereL at h1
    simpa using h1)
  have HSN := hid (fun q (h : q < ks.length) => @projL_snoc t.cols ks q h)
  have HTK : Hid (ks.take ks.length = ks) := hid List.take_length
  clear hr hcl hur hk ht hT
  obtain ⟨id, nm, xs⟩ := t
  simp only at *
  generalize hxl : xs.length = L at *
  clear hxl
  generalize hkl : ks.length = m at *
  have HKL := hid hkl
  clear hkl
  unfold maxLen at hm hum
  have HX0 := hid ((BoxN.new w #[.int .i64 id, .string nm, .slice a L c] 24).alloc (.cells #[.int .i64 0, .string ⟨#[]⟩, .slice none 0 0] 24))
  have hy0 := BoxN.new (w.alloc (.cells #[.int .i64 id, .string nm, .slice a L c] 24)) #[.int .i64 0, .string ⟨#[]⟩, .slice none 0 0] 24
  rw [World.size_alloc] at hy0
  have HY0 := hid hy0
  have HB0 := hid (((Below.refl w.heap.size w).alloc (Nat.le_refl _) (.cells #[.int .i64 id, .string nm, .slice a L c] 24)).alloc (by simp) (.cells #[.int .i64 0, .string ⟨#[]⟩, .slice none 0 0] 24))
  have hz0' : ((w.alloc (.cells #[.int .i64 id, .string nm, .slice a L c] 24)).alloc (.cells #[.int .i64 0, .string ⟨#[]⟩, .slice none 0 0] 24)).heap.size = w.heap.size + 2 := by simp
  have c0 := HX0.out.cell 0 rfl
  have c1 := HX0.out.cell 1 rfl
  have c2 := HX0.out.cell 2 rfl
  clear hy0
  go_enter Tryz.func101, Tryz.ntmps101
  generalize hLA : Code.loop _ = LA
  go_wp2_with fail
  generalize (w.alloc (.cells #[.int .i64 id, .string nm, .slice a L c] 24)).alloc (.cells #[.int .i64 0, .string ⟨#[]⟩, .slice none 0 0] 24) = W0 at *
  with_reducible refine (HVL.out W0 HB0.out).mono ?_
  rintro e w1 ⟨rfl, hb1⟩
  have HB1 := hid (HB0.out.trans (hb1.mono (by omega)))
  have HX1 := hid (HX0.out.below hb1 HX0.out.lt)
  have HY1 := hid (HY0.out.below hb1 HY0.out.lt)
  have hz1' := hb1.size
  clear c0 c1 c2 hb1 HVL
  have c0 := HX1.out.cell 0 rfl
  have c1 := HX1.out.cell 1 rfl
  have c2 := HX1.out.cell 2 rfl
  go_wp2_with fail
  have HO1 := hid (BoxN.new w1 #[.int .i64 id, .string nm, .slice none 0 0] 24)
  have HX2 := hid (HX1.out.alloc (.cells #[.int .i64 id, .string nm, .slice none 0 0] 24))
  have HY2 := hid (HY1.out.alloc (.cells #[.int .i64 id, .string nm, .slice none 0 0] 24))
  have HB2 := hid (HB1.out.alloc (by omega) (.cells #[.int .i64 id, .string nm, .slice none 0 0] 24))
  have hz2' : (w1.alloc (.cells #[.int .i64 id, .string nm, .slice none 0 0] 24)).heap.size = w1.heap.size + 1 := by simp
  generalize w1.alloc (.cells #[.int .i64 id, .string nm, .slice none 0 0] 24) = W2 at *
  clear c0 c1 c2
  subst hLA
  go_loopg [20] m (fun N i wr => ∃ (q : Nat) (y : Value), i = .int .i64 (q : Int) ∧ q + N = m ∧ Hid (GrowSt w W2 wr w1.heap.size W2.heap.size 24 (fun z => #[.int .i64 id, .string nm, z]) 30 2 y q (flatK 2 q (coF (projL xs (ks.take q)) (fun i => cv (ks.getD i 0).toNat)))))
  case atStart => exact ⟨0, .slice none 0 0, rfl, by omega, hid ⟨HB2.out, HO1.out, World.ownsRow_nil _ _ _ _, Nat.le_refl _, fun _ _ _ => rfl⟩⟩
  case round =>
    obtain ⟨q, y, rfl, hq, HST⟩ := hrel
    have hlo := HST.out.low
    by_cases hp : 0 < gk
    · obtain ⟨b, o, rfl, hb, hcell⟩ := HUR.out (by omega)
      have hb' : b < B := hb
      obtain ⟨hk0, hk1⟩ := HKS.out q (by omega)
      obtain ⟨ba, oa, rfl, hba, hcella⟩ := HR.out (by omega)
      have hba' : ba < B := hba
      have k0 : wr.cell? ⟨b, o + q, none⟩ = some (.int .i64 (ks.getD q 0)) := (HST.out.bel.cell (p := ⟨b, o + q, none⟩) (by show b < w.heap.size; omega)).trans (hcell q (by omega))
      have HSNq := hid (HSN.out q (by omega))
      obtain ⟨kq, hkq⟩ : ∃ kq : Nat, ks.getD q 0 = (kq : Int) := ⟨(ks.getD q 0).toNat, by omega⟩
      have hkL : kq < L := by omega
      have k1 : wr.cell? ⟨ba, oa + kq * 2, none⟩ = some (.string (xs.getD kq Co.z).name) := (HST.out.bel.cell (p := ⟨ba, oa + kq * 2, none⟩) (by show ba < w.heap.size; omega)).trans (hcella kq hkL 0 (by omega))
      have k2 : wr.cell? ⟨ba, oa + kq * 2 + 1, none⟩ = some (cv kq) := (HST.out.bel.cell (p := ⟨ba, oa + kq * 2 + 1, none⟩) (by show ba < w.heap.size; omega)).trans (hcella kq hkL 1 (by omega))
      obtain ⟨ca, ck, hcq, -, -, -⟩ := HCL.out kq hkL
      have HCQ := hid hcq
      rw [hkq] at k0 hk0 hk1
      rw [hcq] at k2
      have HKQ := hid hkq
      clear hcell hcella hkq hcq
      have hx2 := ((HST.out.keep w.heap.size (by omega) (by omega)).trans HX2.out)
      have t2 := (show BoxN wr w.heap.size _ _ from hx2).cell 2 rfl
      have s2 : wr.cell? ⟨w1.heap.size, 2, none⟩ = some y := HST.out.box.cell 2 rfl
      have sf2 := HST.out.box.frozen 2
      have HOWN := hid HST.out.own
      have HOB := hid HST.out.own.lt
      obtain ⟨ya, yc, rfl⟩ := own_slice HST.out.own
      have HPL : Hid ((projL xs (ks.take q)).length = q) := hid (by rw [projL_len, List.length_take]; have := HKL.out; omega)
      have HCW : Hid ((fun i => cv (ks.getD i 0).toNat) q = cv kq) := hid (by show cv (ks.getD q 0).toNat = _; rw [HKQ.out]; rfl)
      have HXN : Hid ((xs.getD (ks.getD q 0).toNat Co.z).name = (xs.getD kq Co.z).name) := hid (by rw [HKQ.out]; rfl)
      rw [HCQ.out] at HCW
      generalize (xs.getD kq Co.z).name = xn at *
      generalize (xs.getD kq Co.z).cells.length = cn at *
      clear hx2
      have HO1 := hid ((HOWN.out.alloc (.cells #[.string xn, .slice ca cn ck] 30)).drew)
      have HN1 := hid (show BoxN (wr.alloc (.cells #[.string xn, .slice ca cn ck] 30)).drew wr.heap.size 30 #[.string xn, .slice ca cn ck] from BoxN.new wr _ _)
      have HS1 := hid (HST.out.later (W' := (wr.alloc (.cells #[.string xn, .slice ca cn ck] 30)).drew) (by have h1 := Below.refl wr.heap.size wr; repeat' (first | (with_reducible exact Below.refl _ _) | (with_reducible assumption) | (with_reducible refine below_drewN ?_) | (with_reducible refine Below.alloc ?_ ?_ _) | (with_reducible refine Below.drew ?_) | (with_reducible refine Below.setCell ?_ ?_ _) | (with_reducible refine Below.trans ?_ (Below.mono (by with_reducible assumption) ?_)) | go_size)) HST.out.bel.size)
      have s3 : (wr.alloc (.cells #[.string xn, .slice ca cn ck] 30)).cell? ⟨w1.heap.size, 2, none⟩ = some (.slice ya q yc) := HS1.out.box.cell 2 rfl
      go_upto_region 9 with fail
      go_region_law ((refine step_append_form _ rfl (.tmp 35) (.tmp 41) 22 22 rfl W2.heap.size 30 30 i0 (.agg #[.string ⟨#[]⟩, .slice none 0 0]) 2 40 Tryz.underlying22 Tryz.underlying22 hi hz0 hz1 hz2 rfl (by decide) (.slice ya q yc) q _ rfl HO1.out (some ⟨wr.heap.size, 0, none⟩) 1 1 [.string xn, .slice ca cn ck] rfl rfl (fun _ => ⟨_, rfl, World.news_of_block HN1.out⟩) (by intro u hu; simp at hu; rcases hu with rfl | rfl <;> rfl) (by omega) (by unfold maxLen; omega) (by omega) (by simp; omega) ?_); intro p7 cap7 w7 hown7 hg7 hat7 hlt7; have hbx7 := HS1.out.box.grown hg7 (fun e => by have := HOB.out _ e.symm; omega); have q1 : w7.cell? ⟨w1.heap.size, 2, none⟩ = some (.slice ya q yc) := hbx7.cell 2 rfl; have fq1 := hbx7.frozen 2; have HG7 := hid hg7; have HOWN7 := hid hown7; clear hown7 hg7 hat7 hbx7)
      all_goals
        clear q1 fq1 s3 s2 sf2 t2 k0 k1 k2
        go_wp2
        go_roundg (gk - 1)
        case rel => exact ⟨q + 1, _, by go_num, by omega, hid (by rw [HSNq.out]; exact HS1.out.push (by rw [← co_push HPL.out HCW.out, HXN.out]; exact HOWN7.out) HG7.out 2 rfl (by omega) (by omega))⟩
        case measure => omega
    · obtain rfl : gk = 0 := by omega
      obtain rfl : q = m := by omega
      have hx2 := (show BoxN wr w.heap.size _ _ from (HST.out.keep w.heap.size (by omega) (by omega)).trans HX2.out)
      have hy2 := (show BoxN wr (w.heap.size + 1) _ _ from (HST.out.keep (w.heap.size + 1) (by omega) (by omega)).trans HY2.out)
      obtain ⟨ya, yc, rfl⟩ := own_slice HST.out.own
      have c0 := hy2.cell 0 rfl
      have c1 := hy2.cell 1 rfl
      have c2 := hy2.cell 2 rfl
      have f0 := hy2.frozen 0
      have f1 := hy2.frozen 1
      have f2 := hy2.frozen 2
      have e0 : wr.cell? ⟨w1.heap.size, 0, none⟩ = some (.int .i64 id) := HST.out.box.cell 0 rfl
      have e1 : wr.cell? ⟨w1.heap.size, 1, none⟩ = some (.string nm) := HST.out.box.cell 1 rfl
      have e2 : wr.cell? ⟨w1.heap.size, 2, none⟩ = some (.slice ya q yc) := HST.out.box.cell 2 rfl
      have hd : decide ((64 : Int) < (q : Int)) = false := decide_eq_false (by omega)
      have hd2 : decide (64 < q) = false := decide_eq_false (by omega)
      clear hx2
      go_wp2
      have hwr := HST.out.bel.size
      refine bodyPost_ret (v := .tuple #[.agg #[.int .i64 id, .string nm, .slice ya q yc], .int .i64 0]) (by simp [results, Tryz.results101, go_sem, c0, c1, c2]) rfl ⟨_, rfl, ?_, by have := HST.out.bel; repeat' (first | (with_reducible exact Below.refl _ _) | (with_reducible assumption) | (with_reducible refine below_drewN ?_) | (with_reducible refine Below.alloc ?_ ?_ _) | (with_reducible refine Below.drew ?_) | (with_reducible refine Below.setCell ?_ ?_ _) | (with_reducible refine Below.trans ?_ (Below.mono (by with_reducible assumption) ?_)) | go_size)⟩
      have hown := HST.out.own
      rw [List.take_of_length_le (by have := HKL.out; omega)] at hown
      have hpl : (projL xs ks).length = q := by rw [projL_len]; exact HKL.out
      have hbe := HST.out.bel
      refine rdco_shared (w0 := w) (B := B) hpl hown (fun i hi => ?_) (fun p hp => ?_) (fun p hp1 hp2 => ?_) (by omega) (by simp)
      · have hi' : i < q := by omega
        rw [projL_at (by rw [HKL.out]; exact hi')]
        obtain ⟨h0, h1⟩ := HKS.out i hi'
        exact HCL.out _ (by omega)
      · rw [World.cell?_setCell_other _ _ _ _ (by intro e; subst e; simp at hp; omega), World.cell?_setCell_other _ _ _ _ (by intro e; subst e; simp at hp; omega), World.cell?_setCell_other _ _ _ _ (by intro e; subst e; simp at hp; omega)]
        exact hbe.cell (by omega)
      · rw [World.cell?_setCell_other _ _ _ _ (by intro e; subst e; simp at hp1; omega), World.cell?_setCell_other _ _ _ _ (by intro e; subst e; simp at hp1; omega), World.cell?_setCell_other _ _ _ _ (by intro e; subst e; simp at hp1; omega)]

end Go.Proofs.YtfcccldofaleoaaGreatDoor
