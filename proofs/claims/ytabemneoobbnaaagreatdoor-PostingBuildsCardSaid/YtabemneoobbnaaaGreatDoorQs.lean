/- References in a row of the call's own; two of them exchanged. Plain: columns in another order, and parts of them. No program in sight. Indices kept in boxes. The walk of PostingBuilds. -/
import Derived.Test.YtabemneoobbnaaaGreatDoorQp
import Derived.Test.YtabemneoobbnaaaGreatDoorQq
import Derived.Test.YtabemneoobbnaaaGreatDoorOg
import Derived.Test.YtabemneoobbnaaaGreatDoorQh
import Derived.Test.YtabemneoobbnaaaGreatDoorOi
import Derived.Test.YtabemneoobbnaaaGreatDoorSn
import Derived.Deep.Cut
import Derived.Deep.CutRange
import Derived.Deep.DeepCutAuto
namespace Go.Proofs.YtabemneoobbnaaaGreatDoor
open Go.RowKit

/-- references in a row of the call's own -/
def GivesRfO (w : World) (rs : List (Int × Nat)) (e : Ending) (w' : World) : Prop :=
  ∃ a c, e = .returned (.slice a rs.length c) ∧ w'.ownsRow w.heap.size 47 2 (.slice a rs.length c) rs.length (flatK 2 rs.length (rfF rs)) ∧ Below w.heap.size w w'

set_option maxRecDepth 100000 in
set_option maxHeartbeats 2000000 in
theorem ref_RefsO (v : Value) (ts : List Ta) (B : Nat) (w : World) (h : ListV ts) (hv : RdTa w (· < B) v ts) (hB : B ≤ w.heap.size) :
    Calls Tryz.prog 19 #[v] w (GivesRfO w (refsL ts)) := by
  obtain ⟨hl, hok, -⟩ := h
  obtain ⟨tv, htv, hco⟩ := hv
  obtain ⟨a, k, rfl, hk, hm, hrd⟩ := htv
  obtain ⟨i0, hi, hz0, hz1, hz2⟩ := info_parts info_ref
  have HRD := hid hrd
  have HCO := hid hco
  have HTK := hid (fun q h => @refs_take ts q h)
  have HALL : Hid (refsL ts = refsL (ts.take ts.length)) := hid (by rw [List.take_length])
  have HC64 := hid (fun q (h : q < ts.length) => (hok _ (getD_mem h Ta.z)).2.2.2.1)
  clear hrd hco hok
  generalize refsL ts = R at *
  generalize hxl : ts.length = L at *
  have HXL := hid hxl
  clear hxl
  unfold maxLen at hm
  go_enter Tryz.func19, Tryz.ntmps19
  go_wp2_with fail
  go_loopg [3, 9] L (fun N v i wr => ∃ q : Nat, q + N = L ∧ i = .int .i64 (q : Int) ∧ (refsL (ts.take q)).length ≤ 64 * q ∧ Hid (Below w.heap.size w wr ∧ wr.ownsRow w.heap.size 47 2 v (refsL (ts.take q)).length (flatK 2 (refsL (ts.take q)).length (rfF (refsL (ts.take q))))))
  case atStart => exact ⟨0, by omega, rfl, by simp [refsL], hid ⟨Below.refl _ _, World.ownsRow_nil _ _ _ _⟩⟩
  case round =>
    obtain ⟨q, hq, rfl, hlen, HST⟩ := hrel
    obtain ⟨a3, c3, rfl⟩ := own_slice HST.out.2
    by_cases hp : 0 < gk
    · obtain ⟨b, o, rfl, hb, hcell⟩ := HRD.out (by omega)
      have hbw : b < w.heap.size := by omega
      have hwz := HST.out.1.size
      have k0 : wr.cell? ⟨b, o + q * 3, none⟩ = some (.int .i64 (ts.getD q Ta.z).id) := (HST.out.1.cell (p := ⟨b, o + q * 3, none⟩) hbw).trans (hcell q (by omega) 0 (by omega))
      have k1 : wr.cell? ⟨b, o + q * 3 + 1, none⟩ = some (.string (ts.getD q Ta.z).name) := (HST.out.1.cell (p := ⟨b, o + q * 3 + 1, none⟩) hbw).trans (hcell q (by omega) 1 (by omega))
      have k2 : wr.cell? ⟨b, o + q * 3 + 2, none⟩ = some (tv q) := (HST.out.1.cell (p := ⟨b, o + q * 3 + 2, none⟩) hbw).trans (hcell q (by omega) 2 (by omega))
      obtain ⟨ca, ck, hcq⟩ : ∃ ca ck, tv q = .slice ca (ts.getD q Ta.z).cols.length ck := by
        obtain ⟨cv, ⟨ca, ck, e, -⟩, -⟩ := HCO.out q (by omega)
        exact ⟨ca, ck, e⟩
      have hm64 := HC64.out q (by omega)
      have HNX := hid (HTK.out q (by omega))
      rw [hcq] at k2
      unfold refs1 at HNX
      generalize refsL (ts.take q) = acc at *
      clear hcell hcq
      generalize ts.getD q Ta.z = t at *
      obtain ⟨id, nm, xs⟩ := t
      generalize hxsl : xs.length = m at *
      have HXS := hid hxsl
      clear hxsl
      simp only at k0 k1 k2 hm64
      have HB9 : Hid (Below w.heap.size w (wr.alloc (.cells #[.int .i64 id, .string nm, .slice ca m ck] 84))) := hid (by have := HST.out.1; repeat' (first | (with_reducible exact Below.refl _ _) | (with_reducible assumption) | (with_reducible refine below_drewN ?_) | (with_reducible refine Below.alloc ?_ ?_ _) | (with_reducible refine Below.drew ?_) | (with_reducible refine Below.setCell ?_ ?_ _) | (with_reducible refine Below.trans ?_ (Below.mono (by with_reducible assumption) ?_)) | go_size))
      have HO9 := hid (HST.out.2.alloc (.cells #[.int .i64 id, .string nm, .slice ca m ck] 84))
      have HBX := hid (BoxN.new wr #[.int .i64 id, .string nm, .slice ca m ck] 84)
      have hz9 : (wr.alloc (.cells #[.int .i64 id, .string nm, .slice ca m ck] 84)).heap.size = wr.heap.size + 1 := by simp
      generalize hLA : Code.loop _ = LA
      go_wp2_with fail
      clear k0 k1 k2
      subst hLA
      generalize wr.alloc (.cells #[.int .i64 id, .string nm, .slice ca m ck] 84) = W9 at *
      obtain ⟨wo, rfl⟩ : ∃ wo, wo = wr := ⟨wr, rfl⟩
      obtain ⟨ko, rfl⟩ : ∃ ko, ko = gk := ⟨gk, rfl⟩
      go_loopg [3, 16] m (fun N v i W => ∃ j : Nat, j + N = m ∧ i = .int .i64 (j : Int) ∧ v.ownBlock ≠ some wo.heap.size ∧ Hid (Below w.heap.size w W ∧ W.ownsRow w.heap.size 47 2 v (refsJ acc id j).length (flatK 2 (refsJ acc id j).length (rfF (refsJ acc id j))) ∧ BoxN W wo.heap.size 84 #[.int .i64 id, .string nm, .slice ca m ck]))
      case atStart => exact ⟨0, by omega, rfl, (fun e => by have := (HST.out.2.lt _ e).2; omega), hid ⟨HB9.out, by simpa [refsJ] using HO9.out, HBX.out⟩⟩
      case round =>
        obtain ⟨j, hj, rfl, hne, HSJ⟩ := hrel
        have hjl := refsJ_len acc id j
        have HJS := hid (refsJ_succ acc id j)
        obtain ⟨a4, c4, rfl⟩ := own_slice HSJ.out.2.1
        have hbz := HSJ.out.2.2.lt
        by_cases hpj : 0 < gk
        · have s0 := HSJ.out.2.2.cell 0 rfl
          have HOW := hid HSJ.out.2.1
          have hwzj := HSJ.out.1.size
          generalize refsJ acc id j = cur at *
          generalize hcl : cur.length = n at *
          have HCL := hid hcl
          have hjl2 : n ≤ acc.length + j := by omega
          clear hcl hjl
          go_wp2_with (at_builtin; refine wpList_append_form _ rfl _ _ 44 44 rfl w.heap.size 47 47 i0 (.agg #[.int .i64 0, .int .i64 0]) 2 16 Tryz.underlying44 Tryz.underlying44 hi hz0 hz1 hz2 rfl (by decide) (.slice a4 n c4) n (flatK 2 n (rfF cur)) rfl (HOW.out.alloc _) (some ⟨_, 0, none⟩) 1 1 [.int .i64 id, .int .i64 (j : Int)] rfl rfl (fun _ => ⟨_, rfl, cell_two_at _ _ _ (by simp)⟩) (by intro u hu; simp at hu; rcases hu with rfl | rfl <;> rfl) (by omega) (by unfold maxLen; omega) (by omega) (by simp; omega) ?_; intro p7 cap7 w7 hown7 hg7 hat7 hlt7; have HG7 := hid hg7; have HOWN7 := hid hown7; have HAT7 := hid hat7; clear hown7 hg7 hat7)
          have HB7 : Hid (Below w.heap.size w w7) := hid ((HSJ.out.1.alloc hwzj _).grown HG7.out (by simp; omega) (fun k hk => (HOW.out.lt k hk).1))
          have HX7 := hid ((HSJ.out.2.2.alloc (.cells #[.int .i64 id, .int .i64 (j : Int)] 47)).grown HG7.out hne.symm)
          have HN7 : (Value.slice (some ⟨p7, 0, none⟩) (n + 1) cap7).ownBlock ≠ some wo.heap.size := fun e => by
            have e1 : p7 = wo.heap.size := by simpa [Value.ownBlock] using e
            rcases HAT7.out with h1 | h1
            · exact hne (by rw [h1, e1])
            · simp at h1; omega
          have HO7 := HOWN7.out
          rw [← HCL.out, rf_push cur (id, j), ← HJS.out] at HO7
          have HO8 := hid HO7
          clear HO7 HOWN7 HG7 HAT7 s0
          go_wp2
          go_roundg (gk - 1)
          case rel => exact ⟨j + 1, by omega, by go_num, HN7, hid ⟨HB7.out, by have := HO8.out; rw [HJS.out, List.length_append, List.length_singleton, HCL.out] at this ⊢; exact this, HX7.out⟩⟩
          case measure => omega
        · obtain rfl : j = m := by omega
          have HEQ : Hid (refsL (ts.take (q + 1)) = refsJ acc id j) := hid (by rw [HNX.out]; rfl)
          have HJL := hid hjl
          clear hjl
          generalize refsJ acc id j = cur at *
          go_wp2_with fail
          go_roundg (ko - 1)
          case rel => exact ⟨q + 1, by omega, by go_num, by have := HJL.out; rw [HEQ.out]; omega, hid ⟨HSJ.out.1, by rw [HEQ.out]; exact HSJ.out.2.1⟩⟩
          case measure => omega
    · obtain rfl : q = L := by omega
      have HFIN : Hid (GivesRfO w R (.returned (.slice a3 (refsL (ts.take q)).length c3)) wr) := hid (by
        rw [HALL.out]
        exact ⟨a3, c3, rfl, HST.out.2, HST.out.1⟩)
      go_wp2
      go_ret
      exact HFIN.out

/-! ### Two references exchanged in a block -/
def swapL (R : List (Int × Nat)) (i k : Nat) : List (Int × Nat) := (R.set i (R.getD k (0, 0))).set k (R.getD i (0, 0))
theorem swapL_perm {R : List (Int × Nat)} {i k : Nat} (hi : i < R.length) (hk : k < R.length) : (swapL R i k).Perm R := by
  have h := @List.set_set_perm _ R i k hi hk
  unfold swapL
  simpa [List.getD, hi, hk] using h
theorem swapL_len (R : List (Int × Nat)) (i k : Nat) : (swapL R i k).length = R.length := by simp [swapL]
theorem swapL_at (R : List (Int × Nat)) {i k q : Nat} (hq : q < R.length) : (swapL R i k).getD q (0, 0) = if q = k then R.getD i (0, 0) else if q = i then R.getD k (0, 0) else R.getD q (0, 0) := by
  unfold swapL
  by_cases h1 : q = k
  · subst h1; simp [List.getD, hq]
  · by_cases h2 : q = i
    · subst h2; simp [List.getD, hq, h1, List.getElem?_set, Ne.symm h1]
    · simp [List.getD, hq, h1, h2, List.getElem?_set, Ne.symm h1, Ne.symm h2]
/-- a block whose first cells are references -/
def RefArr (cur : Array Value) (R : List (Int × Nat)) : Prop :=
  ∀ q, q < R.length → cur[q * 2]? = some (.int .i64 (R.getD q (0, 0)).1) ∧ cur[q * 2 + 1]? = some (.int .i64 ((R.getD q (0, 0)).2 : Int))
theorem RefArr.swap {cur : Array Value} {R : List (Int × Nat)} (h : RefArr cur R) {i k : Nat} (hi : i < R.length) (hk : k < R.length) :
    RefArr ((((cur.setIfInBounds (i * 2) (.int .i64 (R.getD k (0, 0)).1)).setIfInBounds (i * 2 + 1) (.int .i64 ((R.getD k (0, 0)).2 : Int))).setIfInBounds (k * 2) (.int .i64 (R.getD i (0, 0)).1)).setIfInBounds (k * 2 + 1) (.int .i64 ((R.getD i (0, 0)).2 : Int))) (swapL R i k) := by
  have sz : ∀ q, q < R.length → q * 2 + 1 < cur.size := fun q hq => (Array.getElem?_eq_some_iff.1 (h q hq).2).1
  intro q hq
  rw [swapL_len] at hq
  rw [swapL_at R hq]
  have s1 := sz q hq
  have s2 := sz i hi
  have s3 := sz k hk
  obtain ⟨e1, e2⟩ := h q hq
  simp only [Array.getElem?_setIfInBounds, Array.size_setIfInBounds]
  by_cases h1 : q = k
  · subst h1
    simp [show q * 2 < cur.size by omega, s1, show q * 2 + 1 ≠ q * 2 by omega]
  · by_cases h2 : q = i
    · subst h2
      simp [h1, show q * 2 < cur.size by omega, s1, show k * 2 + 1 ≠ q * 2 by omega, show k * 2 ≠ q * 2 by omega, show q * 2 + 1 ≠ q * 2 by omega, show k * 2 + 1 ≠ q * 2 + 1 by omega, show k * 2 ≠ q * 2 + 1 by omega]
    · simp [h1, h2, e1, e2, show k * 2 + 1 ≠ q * 2 by omega, show k * 2 ≠ q * 2 by omega, show k * 2 + 1 ≠ q * 2 + 1 by omega, show k * 2 ≠ q * 2 + 1 by omega, show i * 2 + 1 ≠ q * 2 by omega, show i * 2 ≠ q * 2 by omega, show i * 2 + 1 ≠ q * 2 + 1 by omega, show i * 2 ≠ q * 2 + 1 by omega]
/-- the row as a block -/
theorem refs_block {w : World} {base : Nat} {a : Option Addr} {n c : Nat} {R : List (Int × Nat)} (hn : R.length = n) (h : w.ownsRow base 47 2 (.slice a n c) n (flatK 2 n (rfF R))) (h0 : 0 < n) :
    ∃ g cur, a = some ⟨g, 0, none⟩ ∧ base ≤ g ∧ g < w.heap.size ∧ BoxN w g 47 cur ∧ RefArr cur R := by
  rcases h.2 with ⟨-, e⟩ | ⟨g, cap, cur, hv, hb, hg, hnc, hcm, hs, ht⟩
  · omega
  · obtain ⟨rfl, -, rfl⟩ := Value.slice.inj hv
    refine ⟨g, cur, rfl, hb, (Array.getElem?_eq_some_iff.1 hg).1, hg, fun q hq => ?_⟩
    have key : ∀ j, j < 2 → cur[q * 2 + j]? = some (rfF R q j) := fun j hj => by
      have h1 := flatK_at (f := rfF R) (n := n) (k := 2) (i := q) (j := j) (by omega) hj
      rw [← ht, List.getElem?_take, if_pos (by omega)] at h1
      rw [← Array.getElem?_toList]
      exact h1
    exact ⟨key 0 (by omega), key 1 (by omega)⟩

end Go.Proofs.YtabemneoobbnaaaGreatDoor

namespace Go.Proofs.YtabemneoobbnaaaGreatDoor
open Go.RowKit

theorem perm_back {α β : Type} (f : α → β) {R M : List β} (h : R.Perm M) : ∀ L : List α, L.map f = M → ∃ P : List α, P.Perm L ∧ P.map f = R := by
  induction h with
  | nil => intro L e; exact ⟨[], by simp at e; subst e; exact .refl _, rfl⟩
  | cons x h ih =>
    intro L e
    cases L with
    | nil => simp at e
    | cons y L =>
      simp at e
      obtain ⟨P, h1, h2⟩ := ih L e.2
      exact ⟨y :: P, h1.cons y, by simp [h2, e.1]⟩
  | swap x y l =>
    intro L e
    match L, e with
    | a :: b :: L, e =>
      simp at e
      exact ⟨b :: a :: L, .swap _ _ _, by simp [e]⟩
  | trans h1 h2 ih1 ih2 =>
    intro L e
    obtain ⟨P, p1, p2⟩ := ih2 L e
    obtain ⟨Q, q1, q2⟩ := ih1 P p2
    exact ⟨Q, q1.trans p1, q2⟩

/-- the columns at even places, and those at odd ones -/
def evK (P : List Cv) : Nat → List Cv
  | 0 => []
  | q + 1 => if q % 2 = 0 then evK P q ++ [P.getD q Cv.z] else evK P q
def odK (P : List Cv) : Nat → List Cv
  | 0 => []
  | q + 1 => if q % 2 = 0 then odK P q else odK P q ++ [P.getD q Cv.z]
theorem take_next {P : List Cv} {q : Nat} (h : q < P.length) : P.take (q + 1) = P.take q ++ [P.getD q Cv.z] := by
  rw [List.take_succ_eq_append_getElem h]
  simp [List.getD, h]
theorem ev_od (P : List Cv) (q : Nat) (h : q ≤ P.length) : (evK P q ++ odK P q).Perm (P.take q) := by
  induction q with
  | zero => simp [evK, odK]
  | succ q ih =>
    have ih := ih (by omega)
    rw [take_next (by omega)]
    unfold evK odK
    by_cases e : q % 2 = 0
    · rw [if_pos e, if_pos e]
      have h1 : (evK P q ++ [P.getD q Cv.z] ++ odK P q).Perm (evK P q ++ odK P q ++ [P.getD q Cv.z]) := by
        rw [List.append_assoc, List.append_assoc]
        exact List.Perm.append_left _ List.perm_append_comm
      exact h1.trans (ih.append_right _)
    · rw [if_neg e, if_neg e, ← List.append_assoc]
      exact ih.append_right _
theorem ev_mem {P : List Cv} {q : Nat} (h : q ≤ P.length) : ∀ c ∈ evK P q, c ∈ P.take q := fun c hc => (ev_od P q h).mem_iff.1 (List.mem_append.2 (.inl hc))
theorem od_mem {P : List Cv} {q : Nat} (h : q ≤ P.length) : ∀ c ∈ odK P q, c ∈ P.take q := fun c hc => (ev_od P q h).mem_iff.1 (List.mem_append.2 (.inr hc))
theorem ev_od_len {P : List Cv} {q : Nat} (h : q ≤ P.length) : (evK P q).length + (odK P q).length = q := by
  have := (ev_od P q h).length_eq
  rw [List.length_append, List.length_take] at this
  omega
/-- a column that comes later has a reference of its own -/
theorem take_ne {P : List Cv} (hd : Diff P) {q : Nat} (hq : q < P.length) : ∀ c ∈ P.take q, c.1 ≠ (P.getD q Cv.z).1 := by
  intro c hc
  obtain ⟨j, hj, rfl⟩ := List.getElem_of_mem hc
  rw [List.length_take] at hj
  have := List.pairwise_iff_getElem.1 hd j q (by omega) hq (by omega)
  simpa [List.getD, hq] using this
theorem ev_od_ne {P : List Cv} (hd : Diff P) : ∀ c ∈ evK P P.length, ∀ d ∈ odK P P.length, d.1 ≠ c.1 := by
  have h := (hd.perm (cs' := evK P P.length ++ odK P P.length) (by have := ev_od P P.length (Nat.le_refl _); rwa [List.take_length] at this))
  unfold Diff at h
  rw [List.pairwise_append] at h
  exact fun c hc d hd => (h.2.2 c hc d hd).symm
/-- the last column found, and struck -/
theorem erase_back {zs ys : List Cv} {c : Cv} (hz : zs.Perm (ys ++ [c])) : ∃ i, i < zs.length ∧ zs.getD i Cv.z = c ∧ (zs.eraseIdx i).Perm ys := by
  have hc : c ∈ zs := hz.mem_iff.2 (by simp)
  obtain ⟨i, hi, e⟩ := List.getElem_of_mem hc
  refine ⟨i, hi, by simp [List.getD, hi, e], ?_⟩
  have h1 : (zs[i] :: zs.eraseIdx i).Perm zs := by
    have e1 : zs = zs.take i ++ zs[i] :: zs.drop (i + 1) := by rw [← List.drop_eq_getElem_cons hi, List.take_append_drop]
    rw [List.eraseIdx_eq_take_drop_succ]
    exact List.perm_middle.symm.trans (by rw [← e1])
  rw [e] at h1
  have h2 : (c :: zs.eraseIdx i).Perm (c :: ys) := (h1.trans hz).trans List.perm_append_comm
  exact (List.perm_cons c).1 h2

end Go.Proofs.YtabemneoobbnaaaGreatDoor

namespace Go.Proofs.YtabemneoobbnaaaGreatDoor
open Go.RowKit

/-- the index of some columns, kept in a box; its memory lies behind the boxes -/
def IxBox (w : World) (lo b : Nat) (cs : List Cv) : Prop :=
  ∃ ys ea n1 ec va n2 vc la n3 lc, CvsOk ys ∧ StrOk ys ∧ ys.Perm cs ∧ BoxN w b 40 #[.slice ea n1 ec, .slice va n2 vc, .slice la n3 lc] ∧
    RdIx w (fun k => lo + 3 ≤ k ∧ k < w.heap.size) (.slice ea n1 ec) (.slice va n2 vc) (.slice la n3 lc) (indexOf ys)
theorem IxBox.later {w w' : World} {lo b : Nat} {cs : List Cv} (h : IxBox w lo b cs) (hb : Below w.heap.size w w') : IxBox w' lo b cs := by
  obtain ⟨ys, ea, n1, ec, va, n2, vc, la, n3, lc, h1, h2, h3, h4, h5⟩ := h
  exact ⟨ys, ea, n1, ec, va, n2, vc, la, n3, lc, h1, h2, h3, h4.below hb h4.lt, (h5.keep fun p hp => hb.cell (p := p) hp.2).more fun k hk => ⟨hk.1, Nat.lt_of_lt_of_le hk.2 hb.size⟩⟩
theorem IxBox.other {w : World} {lo b : Nat} {cs : List Cv} (h : IxBox w lo b cs) {p : Addr} (hp : p.block ≠ b) (hlo : p.block < lo + 3) (u : Value) : IxBox (w.setCell p u) lo b cs := by
  obtain ⟨ys, ea, n1, ec, va, n2, vc, la, n3, lc, h1, h2, h3, h4, h5⟩ := h
  exact ⟨ys, ea, n1, ec, va, n2, vc, la, n3, lc, h1, h2, h3, h4.other hp u, (h5.keep fun q hq => World.cell?_setCell_other _ _ _ _ (by intro e; subst e; have := hq.1; omega)).more fun k hk => ⟨hk.1, by rw [World.size_setCell]; exact hk.2⟩⟩
/-- three cells of a box written -/
abbrev put3 (w : World) (b : Nat) (x y z : Value) : World := ((w.setCell ⟨b, 0, none⟩ x).setCell ⟨b, 1, none⟩ y).setCell ⟨b, 2, none⟩ z
theorem IxBox.other3 {w : World} {lo b b' : Nat} {cs : List Cv} (h : IxBox w lo b cs) (hp : b' ≠ b) (hlo : b' < lo + 3) (x y z : Value) : IxBox (put3 w b' x y z) lo b cs :=
  ((h.other (p := ⟨b', 0, none⟩) hp hlo x).other (p := ⟨b', 1, none⟩) hp hlo y).other (p := ⟨b', 2, none⟩) hp hlo z
theorem ixBox_put {w : World} {lo b : Nat} {cs ys : List Cv} {ea va la : Option Addr} {n1 ec n2 vc n3 lc : Nat} {x0 x1 x2 : Value} (h : BoxN w b 40 #[x0, x1, x2]) (hb : b < lo + 3) (h1 : CvsOk ys) (h2 : StrOk ys) (h3 : ys.Perm cs)
    (h5 : RdIx w (fun k => lo + 3 ≤ k ∧ k < w.heap.size) (.slice ea n1 ec) (.slice va n2 vc) (.slice la n3 lc) (indexOf ys)) : IxBox (put3 w b (.slice ea n1 ec) (.slice va n2 vc) (.slice la n3 lc)) lo b cs := by
  refine ⟨ys, ea, n1, ec, va, n2, vc, la, n3, lc, h1, h2, h3, ?_, ?_⟩
  · have := ((h.set 0 (.slice ea n1 ec)).set 1 (.slice va n2 vc)).set 2 (.slice la n3 lc)
    simpa using this
  · refine (h5.keep fun q hq => ?_).more fun k hk => ⟨hk.1, by simpa using hk.2⟩
    have hne : q.block ≠ b := by have := hq.1; omega
    rw [World.cell?_setCell_other _ _ _ _ (by intro e; subst e; exact hne rfl), World.cell?_setCell_other _ _ _ _ (by intro e; subst e; exact hne rfl), World.cell?_setCell_other _ _ _ _ (by intro e; subst e; exact hne rfl)]
theorem ixBox_start {w : World} {lo b : Nat} (h : BoxN w b 40 #[.slice none 0 0, .slice none 0 0, .slice none 0 0]) : IxBox w lo b [] :=
  ⟨[], none, 0, 0, none, 0, 0, none, 0, 0, cvsOk_nil, strOk_nil, .refl _, h, rdIx_nil _ _⟩
/-- what a call hands back, its slices by their forms -/
theorem IxP.forms {w w' : World} {cs : List Cv} {mk : Value → Value} {e : Ending} (h : IxP w cs mk e w') :
    ∃ ys ea n1 ec va n2 vc la n3 lc, CvsOk ys ∧ StrOk ys ∧ ys.Perm cs ∧ e = .returned (mk (.agg #[.slice ea n1 ec, .slice va n2 vc, .slice la n3 lc])) ∧ RdIx w' (News w w') (.slice ea n1 ec) (.slice va n2 vc) (.slice la n3 lc) (indexOf ys) ∧ Below w.heap.size w w' := by
  obtain ⟨ys, ev, vv, lv, h1, h2, h3, h4, h5, h6⟩ := h
  obtain ⟨ea, ec, rfl, -⟩ := h5.ents
  obtain ⟨va, vc, rfl, -⟩ := h5.vals
  obtain ⟨lf, ⟨la, lc, rfl, -⟩, -⟩ := h5.lists
  exact ⟨ys, ea, _, ec, va, _, vc, la, _, lc, h1, h2, h3, h4, h5, h6⟩

/-- what the second loop keeps -/
structure Bld (w0 wr : World) (lo : Nat) (P : List Cv) (q : Nat) : Prop where
  below : Below lo w0 wr
  size : lo + 3 ≤ wr.heap.size
  y : IxBox wr lo lo (P.take q)
  a : IxBox wr lo (lo + 1) (evK P q)
  b : IxBox wr lo (lo + 1 + 1) (odK P q)
/-- columns in another order, by their references -/
theorem cvs_other {ts : List Ta} {R : List (Int × Nat)} (h : R.Perm (refsL ts)) : ∃ P : List Cv, P.Perm (cvsL ts) ∧ P.map (·.1) = R := perm_back (fun c : Cv => c.1) h _ (cvsL_refs ts)
/-- a column of them, read off the tables -/
theorem cvs_read {ts : List Ta} {P : List Cv} (hv : ListV ts) (hp : P.Perm (cvsL ts)) {q : Nat} (hq : q < P.length) :
    ∃ x : Co, valuesL x.cells = (P.getD q Cv.z).2 ∧ x.cells.length ≤ 1048576 ∧ ∀ (v : Value) (B : Nat) (W : World), RdTa W (· < B) v ts → B ≤ W.heap.size →
      Calls Tryz.prog 20 #[v, .agg #[.int .i64 (P.getD q Cv.z).1.1, .int .i64 ((P.getD q Cv.z).1.2 : Int)]] W (GetP W B x) := by
  have hm : P.getD q Cv.z ∈ cvsL ts := hp.mem_iff.1 (getD_mem hq Cv.z)
  obtain ⟨j, hj, e⟩ := List.getElem_of_mem hm
  have hj2 : j < (refsL ts).length := by rw [← cvsL_len]; exact hj
  refine ⟨(colsL ts).getD j Co.z, ?_, ?_, fun v B W hr hB => ?_⟩
  · rw [← e]
    simp [cvsL, cvsK, cvOf, List.getD]
  · obtain ⟨i, k, hi, hk, -, h4⟩ := refs_at ts j hj2
    rw [h4]
    obtain ⟨m, hm, hc⟩ := (hv.2.1 _ (getD_mem hi Ta.z)).2.2.2.2
    have := (hc _ (getD_mem hk Co.z)).2.1
    omega
  · have h := ref_Get_at v ts B j W hv hj2 hr hB
    have e1 : (refsL ts).getD j (0, 0) = (P.getD q Cv.z).1 := by
      rw [← e, ← cvsL_refs]
      simp [List.getD, hj]
    rwa [e1] at h

end Go.Proofs.YtabemneoobbnaaaGreatDoor

namespace Go.Proofs.YtabemneoobbnaaaGreatDoor
open Go.RowKit

theorem rdU_later2 {w w1 : World} {sa : Option Addr} {sn sc : Nat} (h : RdU w w.heap.size sa sn sc) (hb1 : Below w.heap.size w w1) : RdU w1 w1.heap.size sa sn sc := by
  obtain ⟨h1, h2, h3⟩ := h
  refine ⟨h1, h2, fun hp => ?_⟩
  obtain ⟨b, o, e, hlt, hc⟩ := h3 hp
  exact ⟨b, o, e, by have := hb1.size; omega, fun i hi => by
    obtain ⟨x, hx, hcx⟩ := hc i hi
    exact ⟨x, hx, (hb1.cell (p := ⟨b, o + i, none⟩) hlt).trans hcx⟩⟩

/-- the state of the shuffle: the dice and the references' block change, all else is as it was -/
structure Shuf (w : World) (B g : Nat) (w7 wr : World) (t : TypeId) (fa : Option Addr) (rs : List (Int × Nat)) : Prop where
  below : Below w.heap.size w wr
  size : wr.heap.size = w7.heap.size
  keep : ∀ k, k < B → k ≠ g → wr.heap[k]? = w7.heap[k]?
  dice : DiceAt t wr g
  arr : 0 < rs.length → ∃ R gr cur, fa = some ⟨gr, 0, none⟩ ∧ B ≤ gr ∧ gr < wr.heap.size ∧ BoxN wr gr 47 cur ∧ RefArr cur R ∧ R.Perm rs

theorem Shuf.drew {w : World} {B g : Nat} {w7 wr : World} {t : TypeId} {fa : Option Addr} {rs : List (Int × Nat)} (h : Shuf w B g w7 wr t fa rs) : Shuf w B g w7 wr.drew t fa rs :=
  ⟨⟨h.below.os, h.below.tape, h.below.output, h.below.size, h.below.block⟩, h.size, h.keep, h.dice, h.arr⟩

set_option maxRecDepth 100000 in
set_option maxHeartbeats 4000000 in
theorem law18_builds (sa : Option Addr) (sn sc : Nat) (w : World) (hs : RdU w w.heap.size sa sn sc) (hT : Tabs w) :
    Calls Tryz.prog 7 #[.slice sa sn sc] w (Ret w (.bool true)) := by
  have HS := hid hs
  have HT := hid hT
  clear hs hT
  go_enter Tryz.func7, Tryz.ntmps7
  go_wp2_with fail
  with_reducible refine (law18_sane _).mono ?_
  rintro e w1 ⟨rfl, hb1⟩
  have HB1 := hid hb1
  have HU1 := hid (rdU_later2 HS.out hb1)
  have hz1 := hb1.size
  clear hb1
  go_wp2_with fail
  with_reducible refine (mill_New sa sn sc _ HU1.out).mono ?_
  rintro e w2 ⟨rfl, hd2, hb2⟩
  have HD2 := hid hd2
  have HB2 := hid (HB1.out.trans (hb2.mono HB1.out.size))
  clear hd2 hb2 HU1
  generalize hgg : w1.heap.size = g at *
  clear hgg
  have hLL := hid (dice_List g 4 3 6 _ HD2.out (by omega) (by omega) (by omega))
  rw [show (((4 : Nat)) : Int) = 4 from rfl, show (((3 : Nat)) : Int) = 3 from rfl, show (((6 : Nat)) : Int) = 6 from rfl] at hLL
  go_wp2_with fail
  with_reducible refine hLL.out.mono ?_
  clear hLL
  rintro e w3 ⟨ts, ta, tc, rfl, hrd, hok, hd3, hr3⟩
  have hlv := listV_of hok (by omega) (by omega) (by omega)
  have HLV := hid hlv
  have HB3 := hid (HB2.out.trans (hr3.below (B' := w.heap.size) (by omega) (HB2.out.size)))
  have HD3 := hid hd3
  have HD3L := hid hd3.lt
  have HRD0 := hid hrd
  have HD2L := hid HD2.out.lt
  have HRD := hid (hrd.more (S' := (· < w3.heap.size)) fun b hb => And.right hb)
  have hT3 : Tabs w3 := HT.out.below HB3.out
  have HBU := hid (posting_Build _ ts w3.heap.size w3 hlv HRD.out (Nat.le_refl _) hT3)
  clear hrd hok hd3 hr3 hT3 hlv
  have HTL : Hid (ts.length ≤ 1024) := hid HLV.out.1
  generalize htl : ts.length = L at *
  have HTLE := hid htl
  clear htl
  go_wp2_with fail
  with_reducible refine HBU.out.mono ?_
  rintro e w4 ⟨ev, vv, lv, rfl, hrx, hb4⟩
  have HRX0 := hid hrx
  have HW34 := hid hb4
  have HRX4 := hid (hrx.more (S' := (· < w4.heap.size)) fun b hb => And.right hb)
  have HB4 := hid (HB3.out.trans (hb4.mono HB3.out.size))
  have HRT4 := hid (HRD.out.keep (w' := w4) fun p hp => hb4.cell (p := p) hp)
  have hz4 := hb4.size
  clear hrx HBU
  obtain ⟨ea, ec, rfl, -⟩ := HRX4.out.ents
  obtain ⟨va', vc', rfl, -⟩ := HRX4.out.vals
  obtain ⟨lf, ⟨la, lc, rfl, -⟩, -⟩ := HRX4.out.lists
  have HOK := hid (cvsL_ok HLV.out)
  have hnl : (indexOf (cvsL ts)).ents.length = (refsL ts).length := (ents_len _).trans (cvsL_len ts)
  have HCN := hid (cvsL_len ts)
  rw [hnl]
  rw [hnl] at HRX4
  have hn64 : (refsL ts).length ≤ 65536 := by
    have := HOK.out.many
    rw [HCN.out] at this
    exact this
  clear hnl
  have HVA := hid (fun W (hW : Below w4.heap.size w4 W) => posting_Valid (cvsL ts) HOK.out _ _ _ w4.heap.size W (HRX4.out.keep (w' := W) fun p hp => hW.cell (p := p) hp) hW.size)
  have HRF := hid (fun W (hW : Below w4.heap.size w4 W) => ref_RefsO _ ts w4.heap.size W HLV.out (((HRT4.out.more (S' := (· < w4.heap.size)) fun b hb => (show b < w4.heap.size by have h : b < w3.heap.size := hb; omega)).keep fun p (hp : p.block < w4.heap.size) => hW.cell (p := p) hp)) hW.size)
  have HD4 := hid (HD3.out.keep (w' := w4) fun k hk => hb4.block k (by have := HD3.out.lt; omega))
  clear hb4 HD3
  generalize hrn : (refsL ts).length = n at *
  have HRN := hid hrn
  clear hrn
  generalize (indexOf (cvsL ts)).vals.length = n2 at *
  generalize (indexOf (cvsL ts)).lists.length = n3 at *
  have HX5 := hid (BoxN.new w4 #[.slice ea n ec, .slice va' n2 vc', .slice la n3 lc] 40)
  have HB45 := hid ((Below.refl w4.heap.size w4).alloc (Nat.le_refl _) (.cells #[.slice ea n ec, .slice va' n2 vc', .slice la n3 lc] 40))
  have hz5 : w4.heap.size < (w4.alloc (.cells #[.slice ea n ec, .slice va' n2 vc', .slice la n3 lc] 40)).heap.size := by simp
  go_upto_region 6 with fail
  generalize w4.alloc (.cells #[.slice ea n ec, .slice va' n2 vc', .slice la n3 lc] 40) = W5 at *
  have hz5b := HB45.out.size
  have x0 := HX5.out.cell 0 rfl
  have x1 := HX5.out.cell 1 rfl
  have x2 := HX5.out.cell 2 rfl
  go_wp2_with fail
  with_reducible refine (HVA.out _ HB45.out).mono ?_
  rintro e w6 ⟨rfl, hb6⟩
  have HB46 := hid (HB45.out.trans (hb6.mono (by omega)))
  have HX6 := hid (HX5.out.below hb6 (by omega))
  have hz6 := hb6.size
  clear hb6 x0 x1 x2 HVA HB45 HX5
  go_wp2_with fail
  with_reducible refine (HRF.out _ HB46.out).mono ?_
  rintro e w7 ⟨fa, fc, rfl, hown7, hb7⟩
  have HB47 := hid (HB46.out.trans (hb7.mono (by omega)))
  have HX7 := hid (HX6.out.below hb7 (by omega))
  have HD7 := hid (HD4.out.keep (w' := w7) fun k hk => HB47.out.block k (by have := HD4.out.lt; omega))
  have HO7 := hid hown7
  have hz7 := hb7.size
  clear hown7 hb7 HRF HB46 HX6
  rw [HRN.out] at HO7 ⊢
  have HSZ7 := hid (show g < w4.heap.size by have := HD4.out.lt; omega)
  go_wp2_with fail
  go_loopg [50] n (fun N i wr => ∃ q : Nat, q + N = n ∧ i = .int .i64 (q : Int) ∧ Hid (Shuf w w6.heap.size g w7 wr 87 fa (refsL ts)))
  case atStart =>
    refine ⟨0, by omega, rfl, hid ⟨HB4.out.trans (HB47.out.mono HB4.out.size), rfl, fun _ _ _ => rfl, HD7.out, fun h0 => ?_⟩⟩
    obtain ⟨gr, cur, e1, e2, e3, e4, e5⟩ := refs_block HRN.out HO7.out (by rw [HRN.out] at h0; exact h0)
    exact ⟨refsL ts, gr, cur, e1, e2, e3, e4, e5, .refl _⟩
  case round =>
    obtain ⟨q, hq, rfl, HST⟩ := hrel
    by_cases hp : 0 < gk
    · have HPK := hid (dice_Pick g ((q : Int) + 1) wr HST.out.dice (by omega) (by omega))
      obtain ⟨R, gr, cur, rfl, hgr, hlt, hbx, hra, hpm⟩ := HST.out.arr (by rw [HRN.out]; omega)
      go_wp2_with fail
      with_reducible refine HPK.out.mono ?_
      rintro e w10 ⟨m, rfl, hm, hd10, hr10, hz10⟩
      have hqn : q < n := by omega
      have hmn : m < n := by omega
      have hRl : R.length = n := hpm.length_eq.trans HRN.out
      have hbx10 := hr10.block gr hlt (by have := HSZ7.out; have := hz6; omega)
      have hbx10 : BoxN w10 gr 47 cur := hbx10.trans hbx
      obtain ⟨a1, a2⟩ := hra q (by omega)
      obtain ⟨b1, b2⟩ := hra m (by omega)
      have HRA := hid (hra.swap (i := q) (k := m) (by omega) (by omega))
      have HPM := hid ((swapL_perm (R := R) (i := q) (k := m) (by omega) (by omega)).trans hpm)
      have k1 := hbx10.cell (q * 2) a1
      have k2 := hbx10.cell (q * 2 + 1) a2
      have k3 := hbx10.cell (m * 2) b1
      have k4 := hbx10.cell (m * 2 + 1) b2
      have f1 := hbx10.frozen (q * 2)
      have f2 := hbx10.frozen (q * 2 + 1)
      have f3 := hbx10.frozen (m * 2)
      have f4 := hbx10.frozen (m * 2 + 1)
      have HBX := hid hbx10
      have hcz1 : m * 2 + 1 < cur.size := (Array.getElem?_eq_some_iff.1 b2).1
      clear hra hbx hbx10 a1 a2 b1 b2 hpm
      generalize R.getD q (0, 0) = rq at *
      generalize R.getD m (0, 0) = rm at *
      obtain ⟨rq1, rq2⟩ := rq
      obtain ⟨rm1, rm2⟩ := rm
      simp only at k1 k2 k3 k4
      have hA1 := HBX.out.set (q * 2) (.int .i64 rm1)
      have hA2 := hA1.set (q * 2 + 1) (.int .i64 (rm2 : Int))
      have g1 := hA1.cell (m * 2) (Array.getElem?_eq_getElem (by simp; omega))
      have g2 := hA2.cell (m * 2 + 1) (Array.getElem?_eq_getElem (by simp; omega))
      clear hA1 hA2
      generalize (cur.setIfInBounds (q * 2) (.int .i64 rm1))[m * 2]'(by simp; omega) = v1 at g1
      generalize ((cur.setIfInBounds (q * 2) (.int .i64 rm1)).setIfInBounds (q * 2 + 1) (.int .i64 (rm2 : Int)))[m * 2 + 1]'(by simp; omega) = v2 at g2
      have HSWAP := hid hcz1
      have HNEW : Hid (Shuf w w6.heap.size g w7 ((((w10.setCell ⟨gr, q * 2, none⟩ (.int .i64 rm1)).setCell ⟨gr, q * 2 + 1, none⟩ (.int .i64 (rm2 : Int))).setCell ⟨gr, m * 2, none⟩ (.int .i64 rq1)).setCell ⟨gr, m * 2 + 1, none⟩ (.int .i64 (rq2 : Int))) 87 (some ⟨gr, 0, none⟩) (refsL ts)) := hid (by
        have hzw := HB4.out.size
        have hgz := HSZ7.out
        have hle : w.heap.size ≤ gr := by omega
        have hblk : ∀ k, k ≠ gr → ((((w10.setCell ⟨gr, q * 2, none⟩ (.int .i64 rm1)).setCell ⟨gr, q * 2 + 1, none⟩ (.int .i64 (rm2 : Int))).setCell ⟨gr, m * 2, none⟩ (.int .i64 rq1)).setCell ⟨gr, m * 2 + 1, none⟩ (.int .i64 (rq2 : Int))).heap[k]? = w10.heap[k]? := fun k hk => by
          rw [Below.heap_setCell _ _ _ _ hk, Below.heap_setCell _ _ _ _ hk, Below.heap_setCell _ _ _ _ hk, Below.heap_setCell _ _ _ _ hk]
        refine ⟨((((HST.out.below.trans (hr10.below (B' := w.heap.size) (by omega) HST.out.below.size)).setCell hle _).setCell hle _).setCell hle _).setCell hle _, by simp [hz10, HST.out.size], fun k hk hkg => ?_, hd10.keep fun k hk => hblk k (by omega), fun _ => ⟨swapL R q m, gr, _, rfl, hgr, by simp [hz10]; omega, (((HBX.out.set _ _).set _ _).set _ _).set _ _, HRA.out, HPM.out⟩⟩
        rw [hblk k (by omega), hr10.block k (by have := HST.out.size; omega) hkg]
        exact HST.out.keep k hk hkg)
      clear HRA HPM HBX HST HSWAP hcz1
      go_upto_region 13 with fail
      go_region
      clear k1 k2 k3 k4 f1 f2 f3 f4 g1 g2
      go_wp2_with fail
      go_roundg (gk - 1)
      case rel => exact ⟨q + 1, by omega, by go_num, hid HNEW.out.drew⟩
      case measure => omega
    · obtain rfl : q = n := by omega
      have HB8 := hid HST.out.below
      have HZ8 := hid HST.out.size
      have hz4s := HB47.out.size
      have hg2 := HD2L.out
      have HK8 : Hid (∀ p : Addr, p.block < w4.heap.size → p.block ≠ g → wr.cell? p = w4.cell? p) := hid (fun p hp hg => (World.cell?_of_block (HST.out.keep _ (by omega) hg)).trans (HB47.out.cell (p := p) hp))
      have hww := HB4.out.size
      have HRT8 : Hid (RdTa wr (· < wr.heap.size) (.slice ta L tc) ts) := hid ((HRD0.out.keep (w' := wr) fun p (hp : News w2 w3 p.block) => (HK8.out p (by have := hp.2; omega) (by have := hp.1; omega)).trans (HW34.out.cell (p := p) hp.2)).more fun b hb => by have := hb.2; have := HZ8.out; omega)
      have HRX8 := hid ((HRX0.out.keep (w' := wr) fun p (hp : News w3 w4 p.block) => HK8.out p hp.2 (by have := hp.1; have := HD3L.out; omega)).more (S' := (· < wr.heap.size)) fun b hb => by have := hb.2; have := HZ8.out; omega)
      have HX8 : Hid (BoxN wr w4.heap.size 40 #[.slice ea q ec, .slice va' n2 vc', .slice la n3 lc]) := hid ((HST.out.keep _ (by omega) (by have := HSZ7.out; omega)).trans HX7.out)
      have HA8 := hid HST.out.arr
      clear HX7 HO7 HD7 HST HB47
      go_wp2_with fail
      with_reducible refine (posting_New _).mono ?_
      rintro e w11 ⟨rfl, hb11⟩
      go_wp2_with fail
      with_reducible refine (posting_New _).mono ?_
      rintro e w12 ⟨rfl, hb12⟩
      go_wp2_with fail
      with_reducible refine (posting_New _).mono ?_
      rintro e w13 ⟨rfl, hb13⟩
      have hb13 := hb11.trans ((hb12.trans (hb13.mono hb12.size)).mono hb11.size)
      have HB83 := hid hb13
      clear hb11 hb12
      obtain ⟨w8, rfl⟩ : ∃ w8, w8 = wr := ⟨wr, rfl⟩
      obtain ⟨P, hP, hPA⟩ : ∃ P : List Cv, P.Perm (cvsL ts) ∧ (0 < q → ∃ gr cur, fa = some ⟨gr, 0, none⟩ ∧ gr < w8.heap.size ∧ BoxN w8 gr 47 cur ∧ RefArr cur (P.map (·.1))) := by
        by_cases h0 : 0 < (refsL ts).length
        · obtain ⟨R, gr, cur, e1, e2, e3, e4, e5, e6⟩ := HA8.out h0
          obtain ⟨P, h1, h2⟩ := cvs_other e6
          exact ⟨P, h1, fun _ => ⟨gr, cur, e1, e3, e4, by rw [h2]; exact e5⟩⟩
        · exact ⟨cvsL ts, .refl _, fun h => absurd (by rw [HRN.out]; exact h) h0⟩
      have HLN : Hid (P.length = q) := hid (hP.length_eq.trans HCN.out)
      have HOKP : Hid (∀ k, k < q → P.getD k Cv.z ∈ cvsL ts) := hid (fun k hk => hP.mem_iff.1 (getD_mem (by rw [HLN.out]; exact hk) Cv.z))
      have HCF : Hid (∀ k, k < q → 0 ≤ (P.getD k Cv.z).1.1 ∧ (P.getD k Cv.z).1.1 ≤ 1073741824 ∧ Asc (P.getD k Cv.z).2 ∧ (P.getD k Cv.z).2.length ≤ 4096 ∧ ∀ s ∈ (P.getD k Cv.z).2, s.size ≤ maxLen) :=
        hid (fun k hk => ⟨(HOK.out.ids _ (HOKP.out k hk)).1, (HOK.out.ids _ (HOKP.out k hk)).2, HOK.out.sets _ (HOKP.out k hk), HOK.out.len _ (HOKP.out k hk), cvsL_str HLV.out _ (HOKP.out k hk)⟩)
      have HDP : Hid (Diff P) := hid ((diff_of HOK.out.up).perm hP)
      have HNE := hid (fun k (hk : k < q) => take_ne HDP.out (q := k) (by rw [HLN.out]; exact hk))
      have HTK := hid (fun k (hk : k < q) => take_next (P := P) (q := k) (by rw [HLN.out]; exact hk))
      have HRDP : Hid (∀ k, k < q → ∃ x : Co, valuesL x.cells = (P.getD k Cv.z).2 ∧ x.cells.length ≤ 1048576 ∧ ∀ (W : World), Below w8.heap.size w8 W →
          Calls Tryz.prog 20 #[.slice ta L tc, .agg #[.int .i64 (P.getD k Cv.z).1.1, .int .i64 ((P.getD k Cv.z).1.2 : Int)]] W (GetP W w8.heap.size x)) := hid (fun k hk => by
        obtain ⟨x, h1, h2, h3⟩ := cvs_read HLV.out hP (q := k) (by rw [HLN.out]; exact hk)
        exact ⟨x, h1, h2, fun W hW => h3 _ _ W (HRT8.out.keep fun p (hp : p.block < w8.heap.size) => hW.cell (p := p) hp) hW.size⟩)
      have HEM := hid (fun k (hk : k < q) => ev_mem (P := P) (q := k) (by rw [HLN.out]; omega))
      have HOM := hid (fun k (hk : k < q) => od_mem (P := P) (q := k) (by rw [HLN.out]; omega))
      have HEL := hid (fun k (hk : k ≤ q) => ev_od_len (P := P) (q := k) (by rw [HLN.out]; omega))
      have HCELL : Hid (∀ k, k < q → ∃ gr, fa = some ⟨gr, 0, none⟩ ∧ gr < w8.heap.size ∧ w8.cell? ⟨gr, k * 2, none⟩ = some (.int .i64 (P.getD k Cv.z).1.1) ∧ w8.cell? ⟨gr, k * 2 + 1, none⟩ = some (.int .i64 ((P.getD k Cv.z).1.2 : Int))) := hid (fun k hk => by
        obtain ⟨gr, cur, e1, e2, e3, e4⟩ := hPA (by omega)
        have hk2 : k < P.length := by rw [HLN.out]; exact hk
        obtain ⟨h1, h2⟩ := e4 k (by simpa using hk2)
        have e5 : (P.map (·.1)).getD k (0, 0) = (P.getD k Cv.z).1 := by simp [List.getD, hk2]
        rw [e5] at h1 h2
        exact ⟨gr, e1, e2, e3.cell _ h1, e3.cell _ h2⟩)
      have HPP := hid hP
      clear hP hPA HA8
      have HN1 := hid (((BoxN.new w13 #[.slice none 0 0, .slice none 0 0, .slice none 0 0] 40).alloc (.cells #[.slice none 0 0, .slice none 0 0, .slice none 0 0] 40)).alloc (.cells #[.slice none 0 0, .slice none 0 0, .slice none 0 0] 40))
      have HN2 := hid ((BoxN.new (w13.alloc (.cells #[.slice none 0 0, .slice none 0 0, .slice none 0 0] 40)) #[.slice none 0 0, .slice none 0 0, .slice none 0 0] 40).alloc (.cells #[.slice none 0 0, .slice none 0 0, .slice none 0 0] 40))
      have HN3 := hid (BoxN.new ((w13.alloc (.cells #[.slice none 0 0, .slice none 0 0, .slice none 0 0] 40)).alloc (.cells #[.slice none 0 0, .slice none 0 0, .slice none 0 0] 40)) #[.slice none 0 0, .slice none 0 0, .slice none 0 0] 40)
      rw [World.size_alloc] at HN2
      rw [World.size_alloc, World.size_alloc] at HN3
      have HK0 : Hid (Below w8.heap.size w8 (((w13.alloc (.cells #[.slice none 0 0, .slice none 0 0, .slice none 0 0] 40)).alloc (.cells #[.slice none 0 0, .slice none 0 0, .slice none 0 0] 40)).alloc (.cells #[.slice none 0 0, .slice none 0 0, .slice none 0 0] 40))) := hid (((HB83.out.alloc HB83.out.size _).alloc (by have := HB83.out.size; simp; omega) _).alloc (by have := HB83.out.size; simp; omega) _)
      have HLO := hid HB83.out.size
      have HZ0 : Hid ((((w13.alloc (.cells #[.slice none 0 0, .slice none 0 0, .slice none 0 0] 40)).alloc (.cells #[.slice none 0 0, .slice none 0 0, .slice none 0 0] 40)).alloc (.cells #[.slice none 0 0, .slice none 0 0, .slice none 0 0] 40)).heap.size = w13.heap.size + 3) := hid (by simp)
      clear HB83
      go_upto_region 16 with fail
      generalize ((w13.alloc (.cells #[.slice none 0 0, .slice none 0 0, .slice none 0 0] 40)).alloc (.cells #[.slice none 0 0, .slice none 0 0, .slice none 0 0] 40)).alloc (.cells #[.slice none 0 0, .slice none 0 0, .slice none 0 0] 40) = W0 at *
      generalize w13.heap.size = lo at *
      go_wp2_with fail
      go_loopg [77] q (fun N i wr => ∃ k : Nat, k + N = q ∧ i = .int .i64 (k : Int) ∧ Hid (Bld W0 wr lo P k))
      case atStart => exact ⟨0, by omega, rfl, hid ⟨Below.refl _ _, by have := HZ0.out; omega, ixBox_start HN1.out, ixBox_start HN2.out, ixBox_start HN3.out⟩⟩
      case round =>
        obtain ⟨k, hk, rfl, HST⟩ := hrel
        by_cases hp : 0 < gk
        · obtain ⟨wo, rfl⟩ : ∃ wo, wo = wr := ⟨wr, rfl⟩
          obtain ⟨ko, rfl⟩ : ∃ ko, ko = gk := ⟨gk, rfl⟩
          have hkq : k < q := by omega
          obtain ⟨gr, rfl, hgr, k0', k1'⟩ := HCELL.out k hkq
          have hBW : Below w8.heap.size w8 wo := HK0.out.trans (HST.out.below.mono HLO.out)
          have k0 := (hBW.cell (p := ⟨gr, k * 2, none⟩) hgr).trans k0'
          have k1 := (hBW.cell (p := ⟨gr, k * 2 + 1, none⟩) hgr).trans k1'
          have HBW := hid hBW
          obtain ⟨x, hxv, hxl, hxg⟩ := HRDP.out k hkq
          obtain ⟨d1, d2, d3, d4, d5⟩ := HCF.out k hkq
          have HNEK := hid (HNE.out k hkq)
          have HTKK := hid (HTK.out k hkq)
          have HEV : Hid (evK P (k + 1) = if k % 2 = 0 then evK P k ++ [P.getD k Cv.z] else evK P k) := hid rfl
          have HOD : Hid (odK P (k + 1) = if k % 2 = 0 then odK P k else odK P k ++ [P.getD k Cv.z]) := hid rfl
          have HXV := hid hxv
          have HXG := hid hxg
          have HD3 := hid d3
          have HD5 := hid d5
          have hel := HEL.out k (by omega)
          have HEMK := hid (HEM.out k hkq)
          have HOMK := hid (HOM.out k hkq)
          clear hBW k0' k1' hxv hxg d3 d5
          generalize P.getD k Cv.z = c at *
          obtain ⟨⟨r1, r2⟩, X⟩ := c
          obtain ⟨xn, xcl⟩ := x
          simp only at k0 k1 hxl d1 d2 d4
          generalize hxl' : X.length = xl at *
          have HXL := hid hxl'
          clear hxl'
          obtain ⟨ys, ea', n1, ec', va2, m2, vc2, la2, m3, lc2, hyo, hys, hyp, hyb, hyr⟩ := HST.out.y
          have HYO := hid hyo
          have HYS := hid hys
          have HYP := hid hyp
          have HYB := hid hyb
          have HYR := hid hyr
          clear hyo hys hyp hyb hyr
          have HSA := hid HST.out.a
          have HSB := hid HST.out.b
          have HSZ := hid HST.out.size
          have HSBL := hid HST.out.below
          clear HST
          have HRB := hid (BoxN.new wo #[.int .i64 r1, .int .i64 (r2 : Int)] 47)
          have HB1 := hid ((Below.refl wo.heap.size wo).alloc (Nat.le_refl _) (.cells #[.int .i64 r1, .int .i64 (r2 : Int)] 47))
          have hz1' : wo.heap.size < (wo.alloc (.cells #[.int .i64 r1, .int .i64 (r2 : Int)] 47)).heap.size := by simp
          have hzw := HBW.out.size
          go_wp2_with fail
          with_reducible refine (HXG.out _ (HBW.out.trans (HB1.out.mono HBW.out.size))).mono ?_
          clear k0 k1
          generalize wo.alloc (.cells #[.int .i64 r1, .int .i64 (r2 : Int)] 47) = U1 at *
          rintro e u2 ⟨u, rfl, hru, hb2⟩
          have HB2 := hid (HB1.out.trans (hb2.mono HB1.out.size))
          have HRB2 := hid (HRB.out.below hb2 HRB.out.lt)
          have HVAL := hid (fun W (hW : Below U1.heap.size U1 W) => ref_Values xn xcl u w8.heap.size W (hru.keep fun p (hp : p.block < w8.heap.size) => hW.cell (p := p) (by omega)) (by have := hW.size; omega) hxl)
          rw [show valuesL xcl = X from HXV.out] at HVAL
          obtain ⟨ua, uc, rfl, -⟩ := hru
          simp only
          generalize xcl.length = un at *
          have HCB := hid (BoxN.new u2 #[.string xn, .slice ua un uc] 52)
          have HB3 := hid (HB2.out.alloc HB2.out.size (.cells #[.string xn, .slice ua un uc] 52))
          have HB13 : Hid (Below U1.heap.size U1 (u2.alloc (.cells #[.string xn, .slice ua un uc] 52))) := hid (hb2.alloc hb2.size _)
          have HRB3 := hid (HRB2.out.alloc (.cells #[.string xn, .slice ua un uc] 52))
          have c0 := HCB.out.cell 0 rfl
          have c1 := HCB.out.cell 1 rfl
          clear hb2
          go_wp2_with fail
          with_reducible refine (HVAL.out _ HB13.out).mono ?_
          clear c0 c1
          generalize u2.alloc (.cells #[.string xn, .slice ua un uc] 52) = U3 at *
          rintro e u4 ⟨xa, xc, rfl, hown4, hb4⟩
          rw [HXL.out] at hown4 ⊢
          have HB4 := hid (HB3.out.trans (hb4.mono HB3.out.size))
          have HRB4 := hid (HRB3.out.below hb4 HRB3.out.lt)
          have HXS : Hid (∀ W, Below u4.heap.size u4 W → InS W (· < W.heap.size) (.slice xa xl xc) X) := hid (fun W hW => by
            have h := hown4
            rw [← HXL.out] at h ⊢
            exact (InK.keep (inS_of_own h) fun p hp => hW.cell (p := p) (h.lt _ hp).2).more fun b hb => Nat.lt_of_lt_of_le (h.lt b hb).2 hW.size)
          have HXT : Hid (∀ W, Below u4.heap.size u4 W → InS W (fun b => lo + 3 ≤ b ∧ b < W.heap.size) (.slice xa xl xc) X) := hid (fun W hW => by
            have h := hown4
            rw [← HXL.out] at h ⊢
            have h1 := HB3.out.size
            have h2 := HSZ.out
            exact (InK.keep (inS_of_own h) fun p hp => hW.cell (p := p) (h.lt _ hp).2).more fun b hb => ⟨by have := (h.lt b hb).1; omega, Nat.lt_of_lt_of_le (h.lt b hb).2 hW.size⟩)
          have HXLE : Hid (X.length ≤ 4096) := hid (by rw [HXL.out]; exact d4)
          clear hown4 hb4 HCB HB13 HVAL HRB HRB2 HRB3 HB1 HB2 HB3
          have HAD1 : Hid (Calls Tryz.prog 35 #[.agg #[.slice ea' n1 ec', .slice va2 m2 vc2, .slice la2 m3 lc2], .agg #[.int .i64 r1, .int .i64 (r2 : Int)], .slice xa xl xc] u4 (IxP u4 (ys ++ [((r1, r2), X)]) okV)) := hid
            (posting_Add ys HYO.out HYS.out _ _ _ (.slice xa xl xc) u4.heap.size (r1, r2) X u4 ((HYR.out.keep fun p hp => HB4.out.cell (p := p) hp.2).more fun b hb => Nat.lt_of_lt_of_le hb.2 HB4.out.size) (Nat.le_refl _) (HXS.out _ (Below.refl _ _)) HD3.out HXLE.out HD5.out d1 d2 (fun c hc => HNEK.out c (HYP.out.mem_iff.1 hc)) (by rw [HYP.out.length_eq, List.length_take]; omega))
          have hy4 := HYB.out.below HB4.out HYB.out.lt
          have y0 := hy4.cell 0 rfl
          have y1 := hy4.cell 1 rfl
          have y2 := hy4.cell 2 rfl
          have r0 := HRB4.out.cell 0 rfl
          have r1' := HRB4.out.cell 1 rfl
          clear hy4
          go_wp2_with fail
          with_reducible refine HAD1.out.mono ?_
          clear y0 y1 y2 r0 r1' HAD1
          rintro e u5 hp5
          obtain ⟨zs, ea5, p1, ec5, va5, p2, vc5, la5, p3, lc5, hzo, hzs, hzp, rfl, hzr, hb5⟩ := hp5.forms
          have HZO := hid hzo
          have HZS := hid hzs
          have HZP := hid hzp
          have HZR := hid hzr
          have HB5 := hid (HB4.out.trans (hb5.mono HB4.out.size))
          have HB45' := hid hb5
          have HRB5 := hid (HRB4.out.below hb5 HRB4.out.lt)
          have HXS5 : Hid (∀ W, Below u5.heap.size u5 W → InS W (· < W.heap.size) (.slice xa xl xc) X) := hid (fun W hW => HXS.out W (hb5.trans (hW.mono hb5.size)))
          clear hzo hzs hzp hzr hb5 hp5
          have HZB := hid (BoxN.new u5 #[.slice ea5 p1 ec5, .slice va5 p2 vc5, .slice la5 p3 lc5] 40)
          have HB6 := hid (HB5.out.alloc HB5.out.size (.cells #[.slice ea5 p1 ec5, .slice va5 p2 vc5, .slice la5 p3 lc5] 40))
          have HB56 := hid ((Below.refl u5.heap.size u5).alloc (Nat.le_refl _) (.cells #[.slice ea5 p1 ec5, .slice va5 p2 vc5, .slice la5 p3 lc5] 40))
          have HRB6 := hid (HRB5.out.alloc (.cells #[.slice ea5 p1 ec5, .slice va5 p2 vc5, .slice la5 p3 lc5] 40))
          obtain ⟨i, hi, hgi, hpi⟩ := erase_back HZP.out
          have HGI := hid hgi
          have HPI := hid hpi
          clear hgi hpi
          have HZRW : Hid (∀ W, Below u5.heap.size u5 W → RdIx W (· < W.heap.size) (.slice ea5 p1 ec5) (.slice va5 p2 vc5) (.slice la5 p3 lc5) (indexOf zs)) := hid (fun W hW => (HZR.out.keep fun p hp => hW.cell (p := p) hp.2).more fun b hb => Nat.lt_of_lt_of_le hb.2 hW.size)
          have HRM : Hid (∀ W, Below u5.heap.size u5 W → Calls Tryz.prog 36 #[.agg #[.slice ea5 p1 ec5, .slice va5 p2 vc5, .slice la5 p3 lc5], .agg #[.int .i64 r1, .int .i64 (r2 : Int)]] W (IxP W (zs.eraseIdx i) okV)) := hid (fun W hW => by
            have h := posting_Remove zs HZO.out HZS.out _ _ _ W.heap.size i W hi (HZRW.out W hW) (Nat.le_refl _)
            rw [HGI.out] at h
            exact h)
          have z0 := HZB.out.cell 0 rfl
          have z1 := HZB.out.cell 1 rfl
          have z2 := HZB.out.cell 2 rfl
          have r0 := HRB6.out.cell 0 rfl
          have r1' := HRB6.out.cell 1 rfl
          have HB46 := hid (HB45'.out.alloc HB45'.out.size (.cells #[.slice ea5 p1 ec5, .slice va5 p2 vc5, .slice la5 p3 lc5] 40))
          go_wp2_with fail
          with_reducible refine (HRM.out _ HB56.out).mono ?_
          clear z0 z1 z2 r0 r1' HRM
          generalize u5.alloc (.cells #[.slice ea5 p1 ec5, .slice va5 p2 vc5, .slice la5 p3 lc5] 40) = U6 at *
          rintro e u7 hp7
          obtain ⟨bs, ea7, s1, ec7, va7, s2, vc7, la7, s3, lc7, hbo, -, hbp, rfl, hbr, hb7⟩ := hp7.forms
          obtain rfl : bs = ys := cvs_unique hbo.up HYO.out.up (hbp.trans HPI.out)
          have HBR := hid hbr
          have HB7 := hid (HB6.out.trans (hb7.mono HB6.out.size))
          have HB57 := hid (HB56.out.trans (hb7.mono HB56.out.size))
          have HZB7 := hid (HZB.out.below hb7 HZB.out.lt)
          have HRB7 := hid (HRB6.out.below hb7 HRB6.out.lt)
          clear hbo hbp hbr hb7 hp7 HZB HRB6
          have HB8 := hid (HB7.out.alloc HB7.out.size (.cells #[.slice ea7 s1 ec7, .slice va7 s2 vc7, .slice la7 s3 lc7] 40))
          have HB58 := hid (HB57.out.alloc HB57.out.size (.cells #[.slice ea7 s1 ec7, .slice va7 s2 vc7, .slice la7 s3 lc7] 40))
          have HBB8 := hid (BoxN.new u7 #[.slice ea7 s1 ec7, .slice va7 s2 vc7, .slice la7 s3 lc7] 40)
          have HZB8 := hid (HZB7.out.alloc (.cells #[.slice ea7 s1 ec7, .slice va7 s2 vc7, .slice la7 s3 lc7] 40))
          have HRB8 := hid (HRB7.out.alloc (.cells #[.slice ea7 s1 ec7, .slice va7 s2 vc7, .slice la7 s3 lc7] 40))
          have HSM : Hid (Calls Tryz.prog 37 #[.agg #[.slice ea7 s1 ec7, .slice va7 s2 vc7, .slice la7 s3 lc7], .agg #[.slice ea' n1 ec', .slice va2 m2 vc2, .slice la2 m3 lc2]] (u7.alloc (.cells #[.slice ea7 s1 ec7, .slice va7 s2 vc7, .slice la7 s3 lc7] 40)) (Ret (u7.alloc (.cells #[.slice ea7 s1 ec7, .slice va7 s2 vc7, .slice la7 s3 lc7] 40)) (.bool true))) := hid
            (posting_Same (indexOf bs) _ _ _ _ _ _ u7.heap.size _ ((HBR.out.keep fun p hp => World.cell?_alloc_lt _ _ _ hp.2).more fun b hb => hb.2) ((HYR.out.keep fun p hp => HB8.out.cell (p := p) hp.2).more fun b hb => by have := HB7.out.size; have := hb.2; omega) (by simp))
          have hy8 := HYB.out.below HB8.out HYB.out.lt
          have y0 := hy8.cell 0 rfl
          have y1 := hy8.cell 1 rfl
          have y2 := hy8.cell 2 rfl
          have b0 := HBB8.out.cell 0 rfl
          have b1 := HBB8.out.cell 1 rfl
          have b2 := HBB8.out.cell 2 rfl
          clear hy8 HB7 HB57 HZB7 HRB7 HBR
          go_wp2_with fail
          with_reducible refine HSM.out.mono ?_
          clear y0 y1 y2 b0 b1 b2 HSM HBB8
          generalize u7.alloc (.cells #[.slice ea7 s1 ec7, .slice va7 s2 vc7, .slice la7 s3 lc7] 40) = U8 at *
          rintro e u9 ⟨rfl, hb9⟩
          have HB9 := hid (HB8.out.trans (hb9.mono HB8.out.size))
          have HB59 := hid (HB58.out.trans (hb9.mono HB58.out.size))
          have HZB9 := hid (HZB8.out.below hb9 HZB8.out.lt)
          have HRB9 := hid (HRB8.out.below hb9 HRB8.out.lt)
          clear hb9 HB8 HB58 HZB8 HRB8
          have HAT : Hid (Calls Tryz.prog 35 #[.agg #[.slice ea5 p1 ec5, .slice va5 p2 vc5, .slice la5 p3 lc5], .agg #[.int .i64 r1, .int .i64 (r2 : Int)], .slice xa xl xc] u9 (Ret u9 (.tuple #[.agg #[.slice none 0 0, .slice none 0 0, .slice none 0 0], .int .i64 6]))) := hid
            (posting_Add_there zs HZO.out _ _ _ (.slice xa xl xc) u9.heap.size i (r1, r2) X u9 (HZRW.out _ HB59.out) (Nat.le_refl _) (HXS5.out _ HB59.out) HD3.out HXLE.out d1 d2 hi (by rw [HGI.out]))
          have z0 := HZB9.out.cell 0 rfl
          have z1 := HZB9.out.cell 1 rfl
          have z2 := HZB9.out.cell 2 rfl
          have r0 := HRB9.out.cell 0 rfl
          have r1' := HRB9.out.cell 1 rfl
          go_wp2_with fail
          with_reducible refine HAT.out.mono ?_
          clear z0 z1 z2 r0 r1' HAT
          rintro e u10 ⟨rfl, hb10⟩
          have HB10 := hid (HB9.out.trans (hb10.mono HB9.out.size))
          have HB510 := hid (HB59.out.trans (hb10.mono HB59.out.size))
          have HZB10 := hid (HZB9.out.below hb10 HZB9.out.lt)
          have HRB10 := hid (HRB9.out.below hb10 HRB9.out.lt)
          have HB11 := hid (HB10.out.alloc HB10.out.size (.cells #[.slice none 0 0, .slice none 0 0, .slice none 0 0] 40))
          have HB511 := hid (HB510.out.alloc HB510.out.size (.cells #[.slice none 0 0, .slice none 0 0, .slice none 0 0] 40))
          have HZB11 := hid (HZB10.out.alloc (.cells #[.slice none 0 0, .slice none 0 0, .slice none 0 0] 40))
          have HRB11 := hid (HRB10.out.alloc (.cells #[.slice none 0 0, .slice none 0 0, .slice none 0 0] 40))
          clear hb10 HB9 HB59 HZB9 HRB9 HB10 HB510 HZB10 HRB10
          have HYB11 := hid (HYB.out.below HB11.out HYB.out.lt)
          have z0 := HZB11.out.cell 0 rfl
          have z1 := HZB11.out.cell 1 rfl
          have z2 := HZB11.out.cell 2 rfl
          have f0 := HYB11.out.frozen 0
          have f1 := HYB11.out.frozen 1
          have f2 := HYB11.out.frozen 2
          have y0 := HYB11.out.cell 0 rfl
          have y1 := HYB11.out.cell 1 rfl
          have y2 := HYB11.out.cell 2 rfl
          go_upto_region 31 with fail
          clear z0 z1 z2 f0 f1 f2 y0 y1 y2
          generalize u10.alloc (.cells #[.slice none 0 0, .slice none 0 0, .slice none 0 0] 40) = U11 at *
          have hwz := HSZ.out
          have hw11 := HB11.out.size
          have HYN : Hid (IxBox (put3 U11 lo (.slice ea5 p1 ec5) (.slice va5 p2 vc5) (.slice la5 p3 lc5)) lo lo (P.take (k + 1))) := hid (ixBox_put HYB11.out (by omega) HZO.out HZS.out (by rw [HTKK.out]; exact HZP.out.trans (HYP.out.append_right _)) ((HZR.out.keep fun p hp => HB511.out.cell (p := p) hp.2).more fun b hb => ⟨by have := hb.1; have := HB4.out.size; omega, Nat.lt_of_lt_of_le hb.2 HB511.out.size⟩))
          have HAN : Hid (IxBox (put3 U11 lo (.slice ea5 p1 ec5) (.slice va5 p2 vc5) (.slice la5 p3 lc5)) lo (lo + 1) (evK P k)) := hid ((HSA.out.later HB11.out).other3 (by omega) (by omega) _ _ _)
          have HBN : Hid (IxBox (put3 U11 lo (.slice ea5 p1 ec5) (.slice va5 p2 vc5) (.slice la5 p3 lc5)) lo (lo + 1 + 1) (odK P k)) := hid ((HSB.out.later HB11.out).other3 (by omega) (by omega) _ _ _)
          have HRN' : Hid (BoxN (put3 U11 lo (.slice ea5 p1 ec5) (.slice va5 p2 vc5) (.slice la5 p3 lc5)) wo.heap.size 47 #[.int .i64 r1, .int .i64 (r2 : Int)]) := hid (((HRB11.out.other (p := ⟨lo, 0, none⟩) (by show lo ≠ wo.heap.size; omega) _).other (p := ⟨lo, 1, none⟩) (by show lo ≠ wo.heap.size; omega) _).other (p := ⟨lo, 2, none⟩) (by show lo ≠ wo.heap.size; omega) _)
          have HBL0 : Hid (Below lo W0 (put3 U11 lo (.slice ea5 p1 ec5) (.slice va5 p2 vc5) (.slice la5 p3 lc5))) := hid ((((HSBL.out.trans (HB11.out.mono (by omega))).setCell (p := ⟨lo, 0, none⟩) (Nat.le_refl _) _).setCell (p := ⟨lo, 1, none⟩) (Nat.le_refl _) _).setCell (p := ⟨lo, 2, none⟩) (Nat.le_refl _) _)
          have HXN : Hid (InS (put3 U11 lo (.slice ea5 p1 ec5) (.slice va5 p2 vc5) (.slice la5 p3 lc5)) (· < (put3 U11 lo (.slice ea5 p1 ec5) (.slice va5 p2 vc5) (.slice la5 p3 lc5)).heap.size) (.slice xa xl xc) X) := hid
            (((HXT.out U11 (HB45'.out.trans (HB511.out.mono HB45'.out.size))).keep fun p hp => by
              have hne : p.block ≠ lo := by have := hp.1; omega
              rw [World.cell?_setCell_other _ _ _ _ (by intro e; subst e; exact hne rfl), World.cell?_setCell_other _ _ _ _ (by intro e; subst e; exact hne rfl), World.cell?_setCell_other _ _ _ _ (by intro e; subst e; exact hne rfl)]).more fun b hb => by simpa using hb.2)
          have HZ12 : Hid (lo + 3 ≤ (put3 U11 lo (.slice ea5 p1 ec5) (.slice va5 p2 vc5) (.slice la5 p3 lc5)).heap.size) := hid (by simp; omega)
          clear HZO HZS HZP HZR HYO HYS HYP HYB HYR HB4 HB11 HB511 HZB11 HRB11 HYB11 HSA HSB HSBL HZRW HXS HXS5 HB45' HB46 HB5 HB56 HB6 HRB4 HRB5 HGI HPI hi
          simp only [put3] at HYN HAN HBN HRN' HBL0 HXN HZ12
          generalize ((U11.setCell ⟨lo, 0, none⟩ (.slice ea5 p1 ec5)).setCell ⟨lo, 1, none⟩ (.slice va5 p2 vc5)).setCell ⟨lo, 2, none⟩ (.slice la5 p3 lc5) = U12 at *
          have hrem : Int.tmod (k : Int) 2 = ((k % 2 : Nat) : Int) := rfl
          by_cases he : k % 2 = 0
          · have HE := hid he
            rw [he] at hrem
            have he2 : ((0 : Nat) : Int) = 0 := rfl
            rw [he2] at hrem
            obtain ⟨qa, ea6, n1', ec6, va6, m2', vc6, la6, m3', lc6, hao, has, hap, hab, har⟩ := HAN.out
            have HAO := hid hao
            have HAS := hid has
            have HAP := hid hap
            have HAB := hid hab
            have HAR := hid har
            have HALN : Hid (qa.length ≤ k) := hid (by have h1 := hap.length_eq; have h2 := HEL.out k (by omega); omega)
            clear hao has hap hab har
            have HAD2 : Hid (Calls Tryz.prog 35 #[.agg #[.slice ea6 n1' ec6, .slice va6 m2' vc6, .slice la6 m3' lc6], .agg #[.int .i64 r1, .int .i64 (r2 : Int)], .slice xa xl xc] U12 (IxP U12 (qa ++ [((r1, r2), X)]) okV)) := hid
              (posting_Add qa HAO.out HAS.out _ _ _ (.slice xa xl xc) U12.heap.size (r1, r2) X U12 (HAR.out.more fun b hb => hb.2) (Nat.le_refl _) HXN.out HD3.out HXLE.out HD5.out d1 d2 (fun c hc => HNEK.out c (HEMK.out c (HAP.out.mem_iff.1 hc))) (by have := HALN.out; omega))
            have a0 := HAB.out.cell 0 rfl
            have a1 := HAB.out.cell 1 rfl
            have a2 := HAB.out.cell 2 rfl
            have r0 := HRN'.out.cell 0 rfl
            have r1' := HRN'.out.cell 1 rfl
            go_wp2_with fail
            with_reducible refine HAD2.out.mono ?_
            clear a0 a1 a2 r0 r1' HAD2
            rintro e u13 hp13
            obtain ⟨cs, ea8, t1, ec8, va8, t2, vc8, la8, t3, lc8, hco, hcs, hcp, rfl, hcr, hb13⟩ := hp13.forms
            have HAB13 := hid (HAB.out.below hb13 HAB.out.lt)
            have hz12 := HZ12.out
            have hz13 := hb13.size
            have HY14 : Hid (IxBox (put3 u13 (lo + 1) (.slice ea8 t1 ec8) (.slice va8 t2 vc8) (.slice la8 t3 lc8)) lo lo (P.take (k + 1))) := hid ((HYN.out.later hb13).other3 (by omega) (by omega) _ _ _)
            have HA14 : Hid (IxBox (put3 u13 (lo + 1) (.slice ea8 t1 ec8) (.slice va8 t2 vc8) (.slice la8 t3 lc8)) lo (lo + 1) (evK P (k + 1))) := hid (ixBox_put HAB13.out (by omega) hco hcs (by rw [HEV.out, if_pos he]; exact hcp.trans (HAP.out.append_right _)) (hcr.more fun b hb => ⟨by have := hb.1; omega, hb.2⟩))
            have HB14 : Hid (IxBox (put3 u13 (lo + 1) (.slice ea8 t1 ec8) (.slice va8 t2 vc8) (.slice la8 t3 lc8)) lo (lo + 1 + 1) (odK P (k + 1))) := hid (by rw [HOD.out, if_pos he]; exact (HBN.out.later hb13).other3 (by omega) (by omega) _ _ _)
            have HL14 : Hid (Below lo W0 (put3 u13 (lo + 1) (.slice ea8 t1 ec8) (.slice va8 t2 vc8) (.slice la8 t3 lc8))) := hid ((((HBL0.out.trans (hb13.mono (by omega))).setCell (p := ⟨lo + 1, 0, none⟩) (by show lo ≤ lo + 1; omega) _).setCell (p := ⟨lo + 1, 1, none⟩) (by show lo ≤ lo + 1; omega) _).setCell (p := ⟨lo + 1, 2, none⟩) (by show lo ≤ lo + 1; omega) _)
            have HZ14 : Hid (lo + 3 ≤ (put3 u13 (lo + 1) (.slice ea8 t1 ec8) (.slice va8 t2 vc8) (.slice la8 t3 lc8)).heap.size) := hid (by simp; omega)
            have f0 := HAB13.out.frozen 0
            have f1 := HAB13.out.frozen 1
            have f2 := HAB13.out.frozen 2
            have g0 := HAB13.out.cell 0 rfl
            have g1 := HAB13.out.cell 1 rfl
            have g2 := HAB13.out.cell 2 rfl
            clear hco hcs hcp hcr hb13 hp13
            go_wp2_with fail
            go_roundg (ko - 1)
            case rel => exact ⟨k + 1, by omega, by go_num, hid ⟨HL14.out, HZ14.out, HY14.out, HA14.out, HB14.out⟩⟩
            case measure => omega
          · have he1 : k % 2 = 1 := by omega
            rw [he1] at hrem
            have he2 : ((1 : Nat) : Int) = 1 := rfl
            rw [he2] at hrem
            obtain ⟨qa, ea6, n1', ec6, va6, m2', vc6, la6, m3', lc6, hao, has, hap, hab, har⟩ := HBN.out
            have HAO := hid hao
            have HAS := hid has
            have HAP := hid hap
            have HAB := hid hab
            have HAR := hid har
            have HALN : Hid (qa.length ≤ k) := hid (by have h1 := hap.length_eq; have h2 := HEL.out k (by omega); omega)
            clear hao has hap hab har
            have HAD2 : Hid (Calls Tryz.prog 35 #[.agg #[.slice ea6 n1' ec6, .slice va6 m2' vc6, .slice la6 m3' lc6], .agg #[.int .i64 r1, .int .i64 (r2 : Int)], .slice xa xl xc] U12 (IxP U12 (qa ++ [((r1, r2), X)]) okV)) := hid
              (posting_Add qa HAO.out HAS.out _ _ _ (.slice xa xl xc) U12.heap.size (r1, r2) X U12 (HAR.out.more fun b hb => hb.2) (Nat.le_refl _) HXN.out HD3.out HXLE.out HD5.out d1 d2 (fun c hc => HNEK.out c (HOMK.out c (HAP.out.mem_iff.1 hc))) (by have := HALN.out; omega))
            have a0 := HAB.out.cell 0 rfl
            have a1 := HAB.out.cell 1 rfl
            have a2 := HAB.out.cell 2 rfl
            have r0 := HRN'.out.cell 0 rfl
            have r1' := HRN'.out.cell 1 rfl
            go_wp2_with fail
            with_reducible refine HAD2.out.mono ?_
            clear a0 a1 a2 r0 r1' HAD2
            rintro e u13 hp13
            obtain ⟨cs, ea8, t1, ec8, va8, t2, vc8, la8, t3, lc8, hco, hcs, hcp, rfl, hcr, hb13⟩ := hp13.forms
            have HAB13 := hid (HAB.out.below hb13 HAB.out.lt)
            have hz12 := HZ12.out
            have hz13 := hb13.size
            have HY14 : Hid (IxBox (put3 u13 (lo + 1 + 1) (.slice ea8 t1 ec8) (.slice va8 t2 vc8) (.slice la8 t3 lc8)) lo lo (P.take (k + 1))) := hid ((HYN.out.later hb13).other3 (by omega) (by omega) _ _ _)
            have HA14 : Hid (IxBox (put3 u13 (lo + 1 + 1) (.slice ea8 t1 ec8) (.slice va8 t2 vc8) (.slice la8 t3 lc8)) lo (lo + 1 + 1) (odK P (k + 1))) := hid (ixBox_put HAB13.out (by omega) hco hcs (by rw [HOD.out, if_neg he]; exact hcp.trans (HAP.out.append_right _)) (hcr.more fun b hb => ⟨by have := hb.1; omega, hb.2⟩))
            have HB14 : Hid (IxBox (put3 u13 (lo + 1 + 1) (.slice ea8 t1 ec8) (.slice va8 t2 vc8) (.slice la8 t3 lc8)) lo (lo + 1) (evK P (k + 1))) := hid (by rw [HEV.out, if_neg he]; exact (HAN.out.later hb13).other3 (by omega) (by omega) _ _ _)
            have HL14 : Hid (Below lo W0 (put3 u13 (lo + 1 + 1) (.slice ea8 t1 ec8) (.slice va8 t2 vc8) (.slice la8 t3 lc8))) := hid ((((HBL0.out.trans (hb13.mono (by omega))).setCell (p := ⟨lo + 1 + 1, 0, none⟩) (by show lo ≤ lo + 1 + 1; omega) _).setCell (p := ⟨lo + 1 + 1, 1, none⟩) (by show lo ≤ lo + 1 + 1; omega) _).setCell (p := ⟨lo + 1 + 1, 2, none⟩) (by show lo ≤ lo + 1 + 1; omega) _)
            have HZ14 : Hid (lo + 3 ≤ (put3 u13 (lo + 1 + 1) (.slice ea8 t1 ec8) (.slice va8 t2 vc8) (.slice la8 t3 lc8)).heap.size) := hid (by simp; omega)
            have f0 := HAB13.out.frozen 0
            have f1 := HAB13.out.frozen 1
            have f2 := HAB13.out.frozen 2
            have g0 := HAB13.out.cell 0 rfl
            have g1 := HAB13.out.cell 1 rfl
            have g2 := HAB13.out.cell 2 rfl
            clear hco hcs hcp hcr hb13 hp13
            go_wp2_with fail
            go_roundg (ko - 1)
            case rel => exact ⟨k + 1, by omega, by go_num, hid ⟨HL14.out, HZ14.out, HY14.out, HB14.out, HA14.out⟩⟩
            case measure => omega
        · obtain rfl : k = q := by omega
          have HBW := hid (HK0.out.trans (HST.out.below.mono HLO.out))
          have hl : (indexOf (cvsL ts)).ents.length = k := (ents_len _).trans HCN.out
          have hrx := HRX8.out
          rw [hl] at hrx
          have HRXW : Hid (∀ W, Below w8.heap.size w8 W → RdIx W (· < w8.heap.size) (.slice ea k ec) (.slice va' n2 vc') (.slice la n3 lc) (indexOf (cvsL ts))) := hid (fun W hW => hrx.keep fun p hp => hW.cell (p := p) hp)
          have HXB : Hid (∀ W, Below w8.heap.size w8 W → BoxN W w4.heap.size 40 #[.slice ea k ec, .slice va' n2 vc', .slice la n3 lc]) := hid (fun W hW => HX8.out.below hW HX8.out.lt)
          obtain ⟨ys, ea', n1, ec', va2, m2, vc2, la2, m3, lc2, hyo, -, hyp, hyb, hyr⟩ := HST.out.y
          obtain ⟨qa, ea6, n1', ec6, va6, m2', vc6, la6, m3', lc6, hao, has, hap, hab, har⟩ := HST.out.a
          obtain ⟨bs, ea7, s1, ec7, va7, s2, vc7, la7, s3, lc7, hbo, hbs, hbp, hbb, hbr⟩ := HST.out.b
          have htk : P.take k = P := List.take_of_length_le (by rw [HLN.out]; exact Nat.le_refl _)
          rw [htk] at hyp
          obtain rfl : ys = cvsL ts := cvs_unique hyo.up HOK.out.up (hyp.trans HPP.out)
          have HPQ : Hid ((qa ++ bs).Perm (cvsL ts)) := hid ((hap.append hbp).trans (by
            have h := ev_od P k (by rw [HLN.out]; exact Nat.le_refl _)
            rw [htk] at h
            exact h.trans HPP.out))
          have hne : ∀ c ∈ qa, ∀ d ∈ bs, d.1 ≠ c.1 := fun c hc d hd => by
            have h := ev_od_ne HDP.out
            rw [HLN.out] at h
            exact h c (hap.mem_iff.1 hc) d (hbp.mem_iff.1 hd)
          have hel := HEL.out k (Nat.le_refl _)
          have hll : qa.length + bs.length ≤ 65536 := by rw [hap.length_eq, hbp.length_eq]; omega
          have HM1 : Hid (Calls Tryz.prog 38 #[.agg #[.slice ea6 n1' ec6, .slice va6 m2' vc6, .slice la6 m3' lc6], .agg #[.slice ea7 s1 ec7, .slice va7 s2 vc7, .slice la7 s3 lc7]] wr (IxP wr (qa ++ bs) okV)) := hid
            (posting_Merge qa bs hao has hbo hbs _ _ _ _ _ _ wr.heap.size wr (har.more fun b hb => hb.2) (hbr.more fun b hb => hb.2) (Nat.le_refl _) hne hll)
          have HM2 : Hid (∀ W, Below wr.heap.size wr W → Calls Tryz.prog 38 #[.agg #[.slice ea7 s1 ec7, .slice va7 s2 vc7, .slice la7 s3 lc7], .agg #[.slice ea6 n1' ec6, .slice va6 m2' vc6, .slice la6 m3' lc6]] W (IxP W (bs ++ qa) okV)) := hid (fun W hW =>
            posting_Merge bs qa hbo hbs hao has _ _ _ _ _ _ wr.heap.size W ((hbr.keep fun p hp => hW.cell (p := p) hp.2).more fun b hb => hb.2) ((har.keep fun p hp => hW.cell (p := p) hp.2).more fun b hb => hb.2) hW.size (fun c hc d hd => (hne d hd c hc).symm) (by omega))
          have HYB := hid hyb
          have HAB := hid hab
          have HBB := hid hbb
          have HYR := hid hyr
          clear hyo hyp hyb hyr hao has hap hab har hbo hbs hbp hbb hbr hne hll hrx hl htk
          have a0 := HAB.out.cell 0 rfl
          have a1 := HAB.out.cell 1 rfl
          have a2 := HAB.out.cell 2 rfl
          have b0 := HBB.out.cell 0 rfl
          have b1 := HBB.out.cell 1 rfl
          have b2 := HBB.out.cell 2 rfl
          go_wp2_with fail
          with_reducible refine HM1.out.mono ?_
          clear a0 a1 a2 b0 b1 b2 HM1
          rintro e v1 hp1
          obtain ⟨ps, ea8, t1, ec8, va8, t2, vc8, la8, t3, lc8, hpo, -, hpp, rfl, hpr, hb1⟩ := hp1.forms
          obtain rfl : ps = cvsL ts := cvs_unique hpo.up HOK.out.up (hpp.trans HPQ.out)
          have HPR := hid hpr
          have HB1' := hid hb1
          have HC1 := hid (hb1.alloc hb1.size (.cells #[.slice ea8 t1 ec8, .slice va8 t2 vc8, .slice la8 t3 lc8] 40))
          have HPB := hid (BoxN.new v1 #[.slice ea8 t1 ec8, .slice va8 t2 vc8, .slice la8 t3 lc8] 40)
          have HPR2 : Hid (RdIx (v1.alloc (.cells #[.slice ea8 t1 ec8, .slice va8 t2 vc8, .slice la8 t3 lc8] 40)) (· < (v1.alloc (.cells #[.slice ea8 t1 ec8, .slice va8 t2 vc8, .slice la8 t3 lc8] 40)).heap.size) (.slice ea8 t1 ec8) (.slice va8 t2 vc8) (.slice la8 t3 lc8) (indexOf (cvsL ts))) := hid ((hpr.keep fun p hp => World.cell?_alloc_lt _ _ _ hp.2).more fun b hb => by have := hb.2; simp; omega)
          have a0 := (HAB.out.below HC1.out HAB.out.lt).cell 0 rfl
          have a1 := (HAB.out.below HC1.out HAB.out.lt).cell 1 rfl
          have a2 := (HAB.out.below HC1.out HAB.out.lt).cell 2 rfl
          have b0 := (HBB.out.below HC1.out HBB.out.lt).cell 0 rfl
          have b1 := (HBB.out.below HC1.out HBB.out.lt).cell 1 rfl
          have b2 := (HBB.out.below HC1.out HBB.out.lt).cell 2 rfl
          clear hpo hpp hpr hb1 hp1
          go_wp2_with fail
          with_reducible refine (HM2.out _ HC1.out).mono ?_
          clear a0 a1 a2 b0 b1 b2 HM2
          generalize v1.alloc (.cells #[.slice ea8 t1 ec8, .slice va8 t2 vc8, .slice la8 t3 lc8] 40) = V1 at *
          rintro e v2 hp2
          obtain ⟨qs, ea9, o1, ec9, va9, o2, vc9, la9, o3, lc9, hqo, -, hqp, rfl, hqr, hb2⟩ := hp2.forms
          obtain rfl : qs = cvsL ts := cvs_unique hqo.up HOK.out.up (hqp.trans (List.perm_append_comm.trans HPQ.out))
          have HC2 := hid (HC1.out.trans (hb2.mono HC1.out.size))
          have HPB2 := hid ((HPB.out.below hb2 HPB.out.lt).alloc (.cells #[.slice ea9 o1 ec9, .slice va9 o2 vc9, .slice la9 o3 lc9] 40))
          have HQB2 := hid (BoxN.new v2 #[.slice ea9 o1 ec9, .slice va9 o2 vc9, .slice la9 o3 lc9] 40)
          have HC3 := hid (HC2.out.alloc HC2.out.size (.cells #[.slice ea9 o1 ec9, .slice va9 o2 vc9, .slice la9 o3 lc9] 40))
          have HPR3 : Hid (RdIx (v2.alloc (.cells #[.slice ea9 o1 ec9, .slice va9 o2 vc9, .slice la9 o3 lc9] 40)) (· < (v2.alloc (.cells #[.slice ea9 o1 ec9, .slice va9 o2 vc9, .slice la9 o3 lc9] 40)).heap.size) (.slice ea8 t1 ec8) (.slice va8 t2 vc8) (.slice la8 t3 lc8) (indexOf (cvsL ts))) := hid
            ((HPR2.out.keep fun p hp => (World.cell?_alloc_lt _ _ _ (Nat.lt_of_lt_of_le hp hb2.size)).trans (hb2.cell (p := p) hp)).more fun b hb => by have := hb2.size; have h : b < V1.heap.size := hb; simp; omega)
          have HQR3 : Hid (RdIx (v2.alloc (.cells #[.slice ea9 o1 ec9, .slice va9 o2 vc9, .slice la9 o3 lc9] 40)) (· < (v2.alloc (.cells #[.slice ea9 o1 ec9, .slice va9 o2 vc9, .slice la9 o3 lc9] 40)).heap.size) (.slice ea9 o1 ec9) (.slice va9 o2 vc9) (.slice la9 o3 lc9) (indexOf (cvsL ts))) := hid
            ((hqr.keep fun p hp => World.cell?_alloc_lt _ _ _ hp.2).more fun b hb => by have := hb.2; simp; omega)
          have hc2z : (v2.alloc (.cells #[.slice ea9 o1 ec9, .slice va9 o2 vc9, .slice la9 o3 lc9] 40)).heap.size = v2.heap.size + 1 := by simp
          have HFIN := hid (HB8.out.trans ((HBW.out.trans (HC3.out.mono HBW.out.size)).mono HB8.out.size))
          have HBWV := hid (HBW.out.trans (HC3.out.mono HBW.out.size))
          have HYR3 : Hid (RdIx (v2.alloc (.cells #[.slice ea9 o1 ec9, .slice va9 o2 vc9, .slice la9 o3 lc9] 40)) (· < (v2.alloc (.cells #[.slice ea9 o1 ec9, .slice va9 o2 vc9, .slice la9 o3 lc9] 40)).heap.size) (.slice ea' n1 ec') (.slice va2 m2 vc2) (.slice la2 m3 lc2) (indexOf (cvsL ts))) := hid
            ((HYR.out.keep fun p hp => HC3.out.cell (p := p) hp.2).more fun b hb => Nat.lt_of_lt_of_le hb.2 HC3.out.size)
          have HXR3 : Hid (RdIx (v2.alloc (.cells #[.slice ea9 o1 ec9, .slice va9 o2 vc9, .slice la9 o3 lc9] 40)) (· < (v2.alloc (.cells #[.slice ea9 o1 ec9, .slice va9 o2 vc9, .slice la9 o3 lc9] 40)).heap.size) (.slice ea k ec) (.slice va' n2 vc') (.slice la n3 lc) (indexOf (cvsL ts))) := hid
            ((HRXW.out _ HBWV.out).more fun b hb => Nat.lt_of_lt_of_le hb HBWV.out.size)
          have HXB3 := hid (HXB.out _ HBWV.out)
          have HYB3 := hid (HYB.out.below HC3.out HYB.out.lt)
          have x0 := HXB3.out.cell 0 rfl
          have x1 := HXB3.out.cell 1 rfl
          have x2 := HXB3.out.cell 2 rfl
          have y0 := HYB3.out.cell 0 rfl
          have y1 := HYB3.out.cell 1 rfl
          have y2 := HYB3.out.cell 2 rfl
          clear hqo hqp hqr hb2 hp2 HAB HBB HYB HPB HPR HPR2 HC1 HC2 HST HRXW HXB HYR HX8 HRX8
          go_upto_region 39 with fail
          generalize v2.alloc (.cells #[.slice ea9 o1 ec9, .slice va9 o2 vc9, .slice la9 o3 lc9] 40) = V3 at *
          have HS1 := hid (posting_Same (indexOf (cvsL ts)) _ _ _ _ _ _ V3.heap.size V3 HXR3.out HYR3.out (Nat.le_refl _))
          go_wp2_with fail
          with_reducible refine HS1.out.mono ?_
          clear x0 x1 x2 y0 y1 y2 HS1
          rintro e v4 ⟨rfl, hb4⟩
          have HD4' := hid hb4
          have hv4 := hb4.size
          have p0 := (HPB2.out.below hb4 HPB2.out.lt).cell 0 rfl
          have p1 := (HPB2.out.below hb4 HPB2.out.lt).cell 1 rfl
          have p2 := (HPB2.out.below hb4 HPB2.out.lt).cell 2 rfl
          have x0 := (HXB3.out.below hb4 HXB3.out.lt).cell 0 rfl
          have x1 := (HXB3.out.below hb4 HXB3.out.lt).cell 1 rfl
          have x2 := (HXB3.out.below hb4 HXB3.out.lt).cell 2 rfl
          have HS2 := hid (posting_Same (indexOf (cvsL ts)) _ _ _ _ _ _ V3.heap.size v4 (HPR3.out.keep fun p (hp : p.block < V3.heap.size) => HD4'.out.cell (p := p) hp) (HXR3.out.keep fun p (hp : p.block < V3.heap.size) => HD4'.out.cell (p := p) hp) hv4)
          clear hb4
          go_wp2_with fail
          with_reducible refine HS2.out.mono ?_
          clear x0 x1 x2 p0 p1 p2 HS2
          rintro e v5 ⟨rfl, hb5⟩
          have HD5' := hid (HD4'.out.trans (hb5.mono HD4'.out.size))
          have hv5 := HD5'.out.size
          have q0 := (HQB2.out.below HD5'.out HQB2.out.lt).cell 0 rfl
          have q1 := (HQB2.out.below HD5'.out HQB2.out.lt).cell 1 rfl
          have q2 := (HQB2.out.below HD5'.out HQB2.out.lt).cell 2 rfl
          have x0 := (HXB3.out.below HD5'.out HXB3.out.lt).cell 0 rfl
          have x1 := (HXB3.out.below HD5'.out HXB3.out.lt).cell 1 rfl
          have x2 := (HXB3.out.below HD5'.out HXB3.out.lt).cell 2 rfl
          have HS3 := hid (posting_Same (indexOf (cvsL ts)) _ _ _ _ _ _ V3.heap.size v5 (HQR3.out.keep fun p (hp : p.block < V3.heap.size) => HD5'.out.cell (p := p) hp) (HXR3.out.keep fun p (hp : p.block < V3.heap.size) => HD5'.out.cell (p := p) hp) hv5)
          clear hb5
          go_wp2_with fail
          with_reducible refine HS3.out.mono ?_
          clear x0 x1 x2 q0 q1 q2 HS3
          rintro e v6 ⟨rfl, hb6⟩
          have HD6 := hid (HFIN.out.trans ((HD5'.out.trans (hb6.mono HD5'.out.size)).mono HFIN.out.size))
          clear hb6
          go_wp2
          go_ret
          exact ⟨rfl, HD6.out⟩

end Go.Proofs.YtabemneoobbnaaaGreatDoor
