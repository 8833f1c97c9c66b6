/- References of tables: plain, and the contracts of the reference's Refs, Find, Get. -/
import Derived.Test.YtabemneoobbnaaaGreatDoorNc
namespace Go.Proofs.YtabemneoobbnaaaGreatDoor
open Go.RowKit

/-- the references of all columns, and the columns -/
def refs1 (t : Ta) : List (Int × Nat) := (List.range t.cols.length).map fun k => (t.id, k)
def refsL (ts : List Ta) : List (Int × Nat) := ts.flatMap refs1
def colsL (ts : List Ta) : List Co := ts.flatMap Ta.cols
theorem refs1_len (t : Ta) : (refs1 t).length = t.cols.length := by simp [refs1]
theorem refs_len (ts : List Ta) : (refsL ts).length = (colsL ts).length := by
  induction ts with
  | nil => rfl
  | cons t ts ih =>
    have e1 : refsL (t :: ts) = refs1 t ++ refsL ts := rfl
    have e2 : colsL (t :: ts) = t.cols ++ colsL ts := rfl
    rw [e1, e2, List.length_append, List.length_append, refs1_len, ih]
theorem refs_at : ∀ (ts : List Ta) (q : Nat), q < (refsL ts).length → ∃ i k, i < ts.length ∧ k < (ts.getD i Ta.z).cols.length ∧ (refsL ts).getD q (0, 0) = ((ts.getD i Ta.z).id, k) ∧ (colsL ts).getD q Co.z = (ts.getD i Ta.z).cols.getD k Co.z
  | [], q, h => by simp [refsL] at h
  | t :: ts, q, h => by
    have e1 : refsL (t :: ts) = refs1 t ++ refsL ts := rfl
    have e2 : colsL (t :: ts) = t.cols ++ colsL ts := rfl
    rw [e1] at h ⊢
    rw [e2]
    by_cases hq : q < t.cols.length
    · refine ⟨0, q, by simp, by simpa using hq, ?_, ?_⟩
      · rw [List.getD, List.getElem?_append_left (show q < (refs1 t).length by rw [refs1_len]; exact hq)]
        simp [refs1, hq]
      · simp [List.getD, List.getElem?_append_left hq]
    · have h2 : q - t.cols.length < (refsL ts).length := by rw [List.length_append, refs1_len] at h; omega
      obtain ⟨i, k, hi, hk, h3, h4⟩ := refs_at ts _ h2
      refine ⟨i + 1, k, by simp; omega, by simpa using hk, ?_, ?_⟩
      · rw [List.getD, List.getElem?_append_right (by rw [refs1_len]; omega), refs1_len]
        simpa [List.getD] using h3
      · rw [List.getD, List.getElem?_append_right (by omega)]
        simpa [List.getD] using h4
theorem refs_take {ts : List Ta} {k : Nat} (h : k < ts.length) : refsL (ts.take (k + 1)) = refsL (ts.take k) ++ refs1 (ts.getD k Ta.z) := by
  unfold refsL
  rw [List.take_succ_eq_append_getElem h, List.flatMap_append]
  simp [List.getD, h]

/-- a slice of references -/
def rfF (rs : List (Int × Nat)) (i : Nat) : Nat → Value := two (.int .i64 (rs.getD i (0, 0)).1) (.int .i64 ((rs.getD i (0, 0)).2 : Int))
def RdRf (w : World) (S : Nat → Prop) (v : Value) (rs : List (Int × Nat)) : Prop := InK 2 w S v rs.length (rfF rs)
theorem rf_push (rs : List (Int × Nat)) (x : Int × Nat) : flatK 2 rs.length (rfF rs) ++ [.int .i64 x.1, .int .i64 (x.2 : Int)] = flatK 2 (rs ++ [x]).length (rfF (rs ++ [x])) := by
  rw [List.length_append, List.length_singleton]
  refine flat_push (fun i hi j hj => ?_) ?_
  · simp [rfF, List.getD, List.getElem?_append_left hi]
  · simp [rfF, List.getD, List.range_succ, two]
theorem info_ref : (Tryz.prog.info? 47).map (fun i => (i.zero, i.size, i.bytes)) = some (some (.agg #[.int .i64 0, .int .i64 0]), 2, 16) := by kernel_rfl
def GivesRf (w : World) (rs : List (Int × Nat)) (e : Ending) (w' : World) : Prop :=
  ∃ a c, e = .returned (.slice a rs.length c) ∧ RdRf w' (News w w') (.slice a rs.length c) rs ∧ Below w.heap.size w w'

def refsJ (acc : List (Int × Nat)) (id : Int) (j : Nat) : List (Int × Nat) := acc ++ (List.range j).map fun k => (id, k)
theorem refsJ_len (acc : List (Int × Nat)) (id : Int) (j : Nat) : (refsJ acc id j).length = acc.length + j := by simp [refsJ]
theorem refsJ_succ (acc : List (Int × Nat)) (id : Int) (j : Nat) : refsJ acc id (j + 1) = refsJ acc id j ++ [(id, j)] := by simp [refsJ, List.range_succ]

set_option maxRecDepth 100000 in
set_option maxHeartbeats 2000000 in
theorem ref_Refs (v : Value) (ts : List Ta) (B : Nat) (w : World) (h : ListV ts) (hv : RdTa w (· < B) v ts) (hB : B ≤ w.heap.size) :
    Calls Tryz.prog 19 #[v] w (GivesRf w (refsL ts)) := by
  obtain ⟨hl, hok, -⟩ := h
  obtain ⟨tv, htv, hco⟩ := hv
  obtain ⟨a, k, rfl, hk, hm, hrd⟩ := htv
  obtain ⟨i0, hi, hz0, hz1, hz2⟩ := info_parts info_ref
  have HRD := hid hrd
  have HCO := hid hco
  have HTK := hid (fun q h => @refs_take ts q h)
  have HALL : Hid (refsL ts = refsL (ts.take ts.length)) := hid (by rw [List.take_length])
  have HC64 := hid (fun q (h : q < ts.length) => (hok _ (getD_mem h Ta.z)).2.2.2.1)
  clear hrd hco hok
  generalize refsL ts = R at *
  generalize hxl : ts.length = L at *
  have HXL := hid hxl
  clear hxl
  unfold maxLen at hm
  go_enter Tryz.func19, Tryz.ntmps19
  go_wp2_with fail
  go_loopg [3, 9] L (fun N v i wr => ∃ q : Nat, q + N = L ∧ i = .int .i64 (q : Int) ∧ (refsL (ts.take q)).length ≤ 64 * q ∧ Hid (Below w.heap.size w wr ∧ wr.ownsRow w.heap.size 47 2 v (refsL (ts.take q)).length (flatK 2 (refsL (ts.take q)).length (rfF (refsL (ts.take q))))))
  case atStart => exact ⟨0, by omega, rfl, by simp [refsL], hid ⟨Below.refl _ _, World.ownsRow_nil _ _ _ _⟩⟩
  case round =>
    obtain ⟨q, hq, rfl, hlen, HST⟩ := hrel
    obtain ⟨a3, c3, rfl⟩ := own_slice HST.out.2
    by_cases hp : 0 < gk
    · obtain ⟨b, o, rfl, hb, hcell⟩ := HRD.out (by omega)
      have hbw : b < w.heap.size := by omega
      have hwz := HST.out.1.size
      have k0 : wr.cell? ⟨b, o + q * 3, none⟩ = some (.int .i64 (ts.getD q Ta.z).id) := (HST.out.1.cell (p := ⟨b, o + q * 3, none⟩) hbw).trans (hcell q (by omega) 0 (by omega))
      have k1 : wr.cell? ⟨b, o + q * 3 + 1, none⟩ = some (.string (ts.getD q Ta.z).name) := (HST.out.1.cell (p := ⟨b, o + q * 3 + 1, none⟩) hbw).trans (hcell q (by omega) 1 (by omega))
      have k2 : wr.cell? ⟨b, o + q * 3 + 2, none⟩ = some (tv q) := (HST.out.1.cell (p := ⟨b, o + q * 3 + 2, none⟩) hbw).trans (hcell q (by omega) 2 (by omega))
      obtain ⟨ca, ck, hcq⟩ : ∃ ca ck, tv q = .slice ca (ts.getD q Ta.z).cols.length ck := by
        obtain ⟨cv, ⟨ca, ck, e, -⟩, -⟩ := HCO.out q (by omega)
        exact ⟨ca, ck, e⟩
      have hm64 := HC64.out q (by omega)
      have HNX := hid (HTK.out q (by omega))
      rw [hcq] at k2
      unfold refs1 at HNX
      generalize refsL (ts.take q) = acc at *
      clear hcell hcq
      generalize ts.getD q Ta.z = t at *
      obtain ⟨id, nm, xs⟩ := t
      generalize hxsl : xs.length = m at *
      have HXS := hid hxsl
      clear hxsl
      simp only at k0 k1 k2 hm64
      have HB9 : Hid (Below w.heap.size w (wr.alloc (.cells #[.int .i64 id, .string nm, .slice ca m ck] 84))) := hid (by have := HST.out.1; repeat' (first | (with_reducible exact Below.refl _ _) | (with_reducible assumption) | (with_reducible refine below_drewN ?_) | (with_reducible refine Below.alloc ?_ ?_ _) | (with_reducible refine Below.drew ?_) | (with_reducible refine Below.setCell ?_ ?_ _) | (with_reducible refine Below.trans ?_ (Below.mono (by with_reducible assumption) ?_)) | go_size))
      have HO9 := hid (HST.out.2.alloc (.cells #[.int .i64 id, .string nm, .slice ca m ck] 84))
      have HBX := hid (BoxN.new wr #[.int .i64 id, .string nm, .slice ca m ck] 84)
      have hz9 : (wr.alloc (.cells #[.int .i64 id, .string nm, .slice ca m ck] 84)).heap.size = wr.heap.size + 1 := by simp
      generalize hLA : Code.loop _ = LA
      go_wp2_with fail
      clear k0 k1 k2
      subst hLA
      generalize wr.alloc (.cells #[.int .i64 id, .string nm, .slice ca m ck] 84) = W9 at *
      obtain ⟨wo, rfl⟩ : ∃ wo, wo = wr := ⟨wr, rfl⟩
      obtain ⟨ko, rfl⟩ : ∃ ko, ko = gk := ⟨gk, rfl⟩
      go_loopg [3, 16] m (fun N v i W => ∃ j : Nat, j + N = m ∧ i = .int .i64 (j : Int) ∧ v.ownBlock ≠ some wo.heap.size ∧ Hid (Below w.heap.size w W ∧ W.ownsRow w.heap.size 47 2 v (refsJ acc id j).length (flatK 2 (refsJ acc id j).length (rfF (refsJ acc id j))) ∧ BoxN W wo.heap.size 84 #[.int .i64 id, .string nm, .slice ca m ck]))
      case atStart => exact ⟨0, by omega, rfl, (fun e => by have := (HST.out.2.lt _ e).2; omega), hid ⟨HB9.out, by simpa [refsJ] using HO9.out, HBX.out⟩⟩
      case round =>
        obtain ⟨j, hj, rfl, hne, HSJ⟩ := hrel
        have hjl := refsJ_len acc id j
        have HJS := hid (refsJ_succ acc id j)
        obtain ⟨a4, c4, rfl⟩ := own_slice HSJ.out.2.1
        have hbz := HSJ.out.2.2.lt
        by_cases hpj : 0 < gk
        · have s0 := HSJ.out.2.2.cell 0 rfl
          have HOW := hid HSJ.out.2.1
          have hwzj := HSJ.out.1.size
          generalize refsJ acc id j = cur at *
          generalize hcl : cur.length = n at *
          have HCL := hid hcl
          have hjl2 : n ≤ acc.length + j := by omega
          clear hcl hjl
          go_wp2_with (at_builtin; refine wpList_append_form _ rfl _ _ 44 44 rfl w.heap.size 47 47 i0 (.agg #[.int .i64 0, .int .i64 0]) 2 16 Tryz.underlying44 Tryz.underlying44 hi hz0 hz1 hz2 rfl (by decide) (.slice a4 n c4) n (flatK 2 n (rfF cur)) rfl (HOW.out.alloc _) (some ⟨_, 0, none⟩) 1 1 [.int .i64 id, .int .i64 (j : Int)] rfl rfl (fun _ => ⟨_, rfl, cell_two_at _ _ _ (by simp)⟩) (by intro u hu; simp at hu; rcases hu with rfl | rfl <;> rfl) (by omega) (by unfold maxLen; omega) (by omega) (by simp; omega) ?_; intro p7 cap7 w7 hown7 hg7 hat7 hlt7; have HG7 := hid hg7; have HOWN7 := hid hown7; have HAT7 := hid hat7; clear hown7 hg7 hat7)
          have HB7 : Hid (Below w.heap.size w w7) := hid ((HSJ.out.1.alloc hwzj _).grown HG7.out (by simp; omega) (fun k hk => (HOW.out.lt k hk).1))
          have HX7 := hid ((HSJ.out.2.2.alloc (.cells #[.int .i64 id, .int .i64 (j : Int)] 47)).grown HG7.out hne.symm)
          have HN7 : (Value.slice (some ⟨p7, 0, none⟩) (n + 1) cap7).ownBlock ≠ some wo.heap.size := fun e => by
            have e1 : p7 = wo.heap.size := by simpa [Value.ownBlock] using e
            rcases HAT7.out with h1 | h1
            · exact hne (by rw [h1, e1])
            · simp at h1; omega
          have HO7 := HOWN7.out
          rw [← HCL.out, rf_push cur (id, j), ← HJS.out] at HO7
          have HO8 := hid HO7
          clear HO7 HOWN7 HG7 HAT7 s0
          go_wp2
          go_roundg (gk - 1)
          case rel => exact ⟨j + 1, by omega, by go_num, HN7, hid ⟨HB7.out, by have := HO8.out; rw [HJS.out, List.length_append, List.length_singleton, HCL.out] at this ⊢; exact this, HX7.out⟩⟩
          case measure => omega
        · obtain rfl : j = m := by omega
          have HEQ : Hid (refsL (ts.take (q + 1)) = refsJ acc id j) := hid (by rw [HNX.out]; rfl)
          have HJL := hid hjl
          clear hjl
          generalize refsJ acc id j = cur at *
          go_wp2_with fail
          go_roundg (ko - 1)
          case rel => exact ⟨q + 1, by omega, by go_num, by have := HJL.out; rw [HEQ.out]; omega, hid ⟨HSJ.out.1, by rw [HEQ.out]; exact HSJ.out.2.1⟩⟩
          case measure => omega
    · obtain rfl : q = L := by omega
      have HFIN : Hid (GivesRf w R (.returned (.slice a3 (refsL (ts.take q)).length c3)) wr) := hid (by
        rw [HALL.out]
        exact ⟨a3, c3, rfl, (inK_of_owns HST.out.2).more fun b hb => HST.out.2.lt b hb, HST.out.1⟩)
      go_wp2
      go_ret
      exact HFIN.out

end Go.Proofs.YtabemneoobbnaaaGreatDoor
