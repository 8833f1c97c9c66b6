/- Contracts of slices.IndexFunc at links, and of lineage.to. Contracts of table.column, table.find, table.with, table.Find, where the table is there. Contracts of table.with at the columns of a table, and of table.Find where the table is there. -/
import Derived.Test.YtfmlpaplnkohpaaGreatDoorLnBak
import Derived.Test.YtfmlpaplnkohpaaGreatDoorLnBbc
import Derived.Deep.RegionHeld3
import Derived.Deep.RegionLawGrows
import Derived.Test.YtfmlpaplnkohpaaGreatDoorLnBal
import Derived.Test.YtfmlpaplnkohpaaGreatDoorLnBag
set_option linter.unusedVariables false
set_option linter.unusedSimpArgs false
namespace Go.Proofs.YtfmlpaplnkohpaaGreatDoor
open Go.RowKit
theorem toL_at : ∀ {xs : List Lk} {id : Int} {i : Nat}, i < xs.length → (xs.getD i Lk.z).dst = id → (∀ j, j < i → (xs.getD j Lk.z).dst ≠ id) → toL xs id = some (xs.getD i Lk.z)
  | [], _, i, h, _, _ => by simp at h
  | x :: r, id, 0, _, h1, _ => by
    have h2 : x.dst = id := h1
    unfold toL
    rw [List.find?_cons_of_pos (by simp [h2])]
    rfl
  | x :: r, id, i + 1, h, h1, h2 => by
    have h3 : x.dst ≠ id := h2 0 (by omega)
    have h4 := toL_at (xs := r) (id := id) (i := i) (by simpa using h) h1 (fun j hj => h2 (j + 1) (by omega))
    unfold toL at *
    rw [List.find?_cons_of_neg (by simp [h3]), h4]
    rfl
theorem toL_out {xs : List Lk} {id : Int} (h : ∀ j, j < xs.length → (xs.getD j Lk.z).dst ≠ id) : toL xs id = none := by
  unfold toL
  rw [List.find?_eq_none]
  intro y hy
  obtain ⟨j, hj, rfl⟩ := List.getElem_of_mem hy
  have := h j hj
  simpa [List.getD, hj] using this
set_option maxHeartbeats 1000000 in
theorem to_one (s d z : Int) (a : Option Addr) (n c rb : Nat) (w : World) (h1 : w.cell? ⟨rb, 0, none⟩ = some (.int .i64 z)) :
    Calls Tryz.prog 96 #[.agg #[.int .i64 s, .int .i64 d, .slice a n c], .pointer (some ⟨rb, 0, none⟩)] w (Ret w (.bool (decide (d = z)))) := by
  have hrl := World.block_lt_of_cell? _ _ h1
  have n1 : (w.alloc (.cells #[.int .i64 s, .int .i64 d, .slice a n c] 66)).cell? ⟨rb, 0, none⟩ = some (.int .i64 z) := (World.cell?_alloc_lt _ _ _ hrl).trans h1
  have HB := hid ((Below.refl w.heap.size w).alloc (Nat.le_refl _) (.cells #[.int .i64 s, .int .i64 d, .slice a n c] 66))
  go_enter Tryz.func96, Tryz.ntmps96
  go_wp2
  go_ret
  exact ⟨ret_bool (by by_cases h : d = z <;> simp [h]), HB.out⟩
def IxP (w : World) (xs : List Lk) (id : Int) (e : Ending) (w' : World) : Prop :=
  Below w.heap.size w w' ∧ ((∃ i, i < xs.length ∧ (xs.getD i Lk.z).dst = id ∧ (∀ j, j < i → (xs.getD j Lk.z).dst ≠ id) ∧ e = .returned (.int .i64 (i : Int))) ∨ ((∀ j, j < xs.length → (xs.getD j Lk.z).dst ≠ id) ∧ e = .returned (.int .i64 (-1))))
set_option maxRecDepth 100000 in
set_option maxHeartbeats 1000000 in
theorem index_links (v : Value) (xs : List Lk) (B rb : Nat) (id : Int) (w : World) (hl : xs.length ≤ 1048576) (hv : RdLk w (· < B) v xs) (hB : B ≤ w.heap.size) (h1 : w.cell? ⟨rb, 0, none⟩ = some (.int .i64 id)) :
    Calls Tryz.prog 95 #[v, .func (.func 96) #[] #[.pointer (some ⟨rb, 0, none⟩)]] w (IxP w xs id) := by
  obtain ⟨va, vc, rfl, -, hvm⟩ := rdLk_len hv
  have hrl := World.block_lt_of_cell? _ _ h1
  have HV := hid hv
  have HF := hid (fun s d a n c W (hW : Below w.heap.size w W) => to_one s d id a n c rb W ((hW.cell (p := ⟨rb, 0, none⟩) hrl).trans h1))
  unfold IxP
  clear hv h1
  generalize hxl : xs.length = L at *
  have HXL := hid hxl
  clear hxl
  go_enter Tryz.func95, Tryz.ntmps95
  go_wp2_with fail
  go_loopg [8] L (fun N u wr => ∃ q : Nat, q + N = L ∧ u = .int .i64 (q : Int) ∧ Hid (Below w.heap.size w wr) ∧ Hid (∀ j, j < q → (xs.getD j Lk.z).dst ≠ id))
  case atStart => exact ⟨0, by omega, rfl, hid (Below.refl _ _), hid (fun j h => absurd h (by omega))⟩
  case round =>
    obtain ⟨q, hq, rfl, HB, HNE⟩ := hrel
    have hwz := HB.out.size
    by_cases hp : 0 < gk
    · have hqL : q < L := by omega
      obtain ⟨b, o, c3, u, e3, hb, hpo, k0, k1, k2⟩ := lk_at (HV.out.keep (w' := wr) fun p (hp : p.block < B) => HB.out.cell (p := p) (by omega)) (q := q) (by rw [HXL.out]; exact hqL)
      rw [HXL.out] at e3
      obtain ⟨rfl, -, rfl⟩ := Value.slice.inj e3
      obtain ⟨ua, uc, rfl⟩ := rdPo_len hpo
      have HFQ := hid (HF.out (xs.getD q Lk.z).src (xs.getD q Lk.z).dst ua (xs.getD q Lk.z).ops.length uc wr HB.out)
      have hqi : (q : Int) < (L : Int) := by omega
      clear e3 hb hpo
      by_cases hd : (xs.getD q Lk.z).dst = id
      · have HD := hid hd
        rw [decide_eq_true hd] at HFQ
        clear hd
        generalize hY : xs.getD q Lk.z = Y at *
        obtain ⟨ys, yd, yo⟩ := Y
        have HY := hid hY
        clear hY
        simp only at k0 k1 k2 HFQ HD
        generalize yo.length = l at *
        go_wp2_with fail
        with_reducible refine HFQ.out.mono ?_
        rintro e w6 ⟨rfl, hb6⟩
        have HB6 := hid (HB.out.trans (hb6.mono hwz))
        clear hb6 k0 k1 k2
        go_wp2
        go_ret
        exact ⟨HB6.out, .inl ⟨q, hqL, by rw [HY.out]; exact HD.out, by simpa using HNE.out, rfl⟩⟩
      · have HD := hid hd
        rw [decide_eq_false hd] at HFQ
        clear hd
        have HN2 : Hid (∀ j, j < q + 1 → (xs.getD j Lk.z).dst ≠ id) := hid (fun j hj => by
          rcases Nat.lt_or_ge j q with h1 | h1
          · exact HNE.out j h1
          · obtain rfl : j = q := by omega
            exact HD.out)
        clear HD
        generalize xs.getD q Lk.z = Y at *
        obtain ⟨ys, yd, yo⟩ := Y
        simp only at k0 k1 k2 HFQ
        generalize yo.length = l at *
        go_wp2_with fail
        with_reducible refine HFQ.out.mono ?_
        rintro e w6 ⟨rfl, hb6⟩
        have HB6 := hid (HB.out.trans (hb6.mono hwz))
        clear hb6 k0 k1 k2
        go_wp2_with fail
        go_roundg (gk - 1)
        case rel => exact ⟨q + 1, by omega, by go_num, HB6, HN2⟩
        case measure => omega
    · obtain rfl : gk = 0 := by omega
      obtain rfl : L = q := by omega
      go_wp2
      go_ret
      exact ⟨HB.out, .inr ⟨by simpa using HNE.out, rfl⟩⟩
def ToP (w : World) (S : Nat → Prop) (xs : List Lk) (id : Int) (e : Ending) (w' : World) : Prop :=
  Below w.heap.size w w' ∧ match toL xs id with
    | none => e = .returned (.tuple #[.agg #[.int .i64 0, .int .i64 0, .slice none 0 0], .bool false])
    | some y => ∃ a c, e = .returned (.tuple #[.agg #[.int .i64 y.src, .int .i64 y.dst, .slice a y.ops.length c], .bool true]) ∧ RdPo w S (.slice a y.ops.length c) y.ops
set_option maxRecDepth 100000 in
set_option maxHeartbeats 1000000 in
theorem lin_to (v : Value) (xs : List Lk) (B : Nat) (id : Int) (w : World) (hl : xs.length ≤ 1048576) (hv : RdLk w (· < B) v xs) (hB : B ≤ w.heap.size) :
    Calls Tryz.prog 57 #[v, .int .i64 id] w (ToP w (· < B) xs id) := by
  have hv' := hv
  obtain ⟨va, vc, rfl, hvl, hvm⟩ := rdLk_len hv'
  have HV := hid hv
  have hx := (BoxN.new w #[.int .i64 id] 3).alloc (.cells #[.int .i64 0, .int .i64 0, .slice none 0 0] 66)
  have hy := BoxN.new (w.alloc (.cells #[.int .i64 id] 3)) #[.int .i64 0, .int .i64 0, .slice none 0 0] 66
  rw [World.size_alloc] at hy
  have HB0 := hid (((Below.refl w.heap.size w).alloc (Nat.le_refl _) (.cells #[.int .i64 id] 3)).alloc (by simp) (.cells #[.int .i64 0, .int .i64 0, .slice none 0 0] 66))
  have HIX := hid (index_links (.slice va xs.length vc) xs B w.heap.size id _ hl (hv.keep fun p (hp : p.block < B) => HB0.out.cell (p := p) (by omega)) (Nat.le_trans hB HB0.out.size) (hx.cell 0 rfl))
  have HY := hid hy
  have HTA := hid (fun i => @toL_at xs id i)
  have HTO := hid (@toL_out xs id)
  unfold ToP
  clear hv hv' hx hy
  generalize toL xs id = T at *
  unfold IxP at HIX
  generalize hxl : xs.length = L at *
  have HXL := hid hxl
  clear hxl
  go_enter Tryz.func57, Tryz.ntmps57
  go_wp2_with fail
  with_reducible refine HIX.out.mono ?_
  generalize (w.alloc (.cells #[.int .i64 id] 3)).alloc (.cells #[.int .i64 0, .int .i64 0, .slice none 0 0] 66) = W0 at *
  have hw0 := HB0.out.size
  rintro e w1 ⟨hb1, ⟨i, hi, hd, hne, rfl⟩ | ⟨hne, rfl⟩⟩
  · have hT := HTA.out i hi hd hne
    subst hT
    have HB1 := hid (HB0.out.trans (hb1.mono hw0))
    have hy1 := HY.out.below hb1 HY.out.lt
    obtain ⟨b, o, c3, u, e3, hb, hpo, k0, k1, k2⟩ := lk_at (HV.out.keep (w' := w1) fun p (hp : p.block < B) => HB1.out.cell (p := p) (by omega)) (q := i) (by rw [HXL.out]; exact hi)
    rw [HXL.out] at e3
    obtain ⟨rfl, -, rfl⟩ := Value.slice.inj e3
    obtain ⟨ua, uc, rfl⟩ := rdPo_len hpo
    have hpo2 : RdPo w (· < B) (.slice ua (xs.getD i Lk.z).ops.length uc) (xs.getD i Lk.z).ops := hpo.keep fun p (hp : p.block < B) => (HB1.out.cell (p := p) (by omega)).symm
    have HPO := hid hpo2
    have hii : (i : Int) < (L : Int) := by omega
    have hi0 : ¬ (i : Int) < 0 := by omega
    have y0 := hy1.cell 0 rfl
    have y1 := hy1.cell 1 rfl
    have y2 := hy1.cell 2 rfl
    have z0 := hy1.frozen 0
    have z1 := hy1.frozen 1
    have z2 := hy1.frozen 2
    clear e3 hb hpo hpo2 hd hne HTA HTO HIX
    generalize hYE : xs.getD i Lk.z = Y at *
    obtain ⟨ys, yd, yo⟩ := Y
    have HYE := hid hYE
    clear hYE
    simp only at k0 k1 k2 HPO ⊢
    generalize hol : yo.length = l at *
    have HOL := hid hol
    clear hol hy1 hb1
    go_wp2
    refine bodyPost_ret (v := .tuple #[.agg #[.int .i64 ys, .int .i64 yd, .slice ua l uc], .bool true]) (by simp [results, Tryz.results57, go_sem, y0, y1, y2]) rfl ⟨?_, ua, uc, by have h1 := HYE.out; have h2 := HOL.out; rw [List.getD_eq_getElem?_getD] at h1; rw [h1, ← h2], by have h1 := HYE.out; have h2 := HOL.out; rw [List.getD_eq_getElem?_getD] at h1; rw [h1]; simp only; rw [h2]; exact HPO.out⟩
    exact (((HB1.out.setCell (p := ⟨w.heap.size + 1, 0, none⟩) (by show w.heap.size ≤ w.heap.size + 1; omega) _).setCell (p := ⟨w.heap.size + 1, 1, none⟩) (by show w.heap.size ≤ w.heap.size + 1; omega) _).setCell (p := ⟨w.heap.size + 1, 2, none⟩) (by show w.heap.size ≤ w.heap.size + 1; omega) _)
  · have hT := HTO.out hne
    subst hT
    have HB1 := hid (HB0.out.trans (hb1.mono hw0))
    have hy1 := HY.out.below hb1 HY.out.lt
    have y0 := hy1.cell 0 rfl
    have y1 := hy1.cell 1 rfl
    have y2 := hy1.cell 2 rfl
    have z0 := hy1.frozen 0
    have z1 := hy1.frozen 1
    have z2 := hy1.frozen 2
    clear hne HTA HTO HIX hy1 hb1
    go_wp2
    refine bodyPost_ret (v := .tuple #[.agg #[.int .i64 0, .int .i64 0, .slice none 0 0], .bool false]) (by simp [results, Tryz.results57, go_sem, y0, y1, y2]) rfl ⟨?_, rfl⟩
    exact (((HB1.out.setCell (p := ⟨w.heap.size + 1, 0, none⟩) (by show w.heap.size ≤ w.heap.size + 1; omega) _).setCell (p := ⟨w.heap.size + 1, 1, none⟩) (by show w.heap.size ≤ w.heap.size + 1; omega) _).setCell (p := ⟨w.heap.size + 1, 2, none⟩) (by show w.heap.size ≤ w.heap.size + 1; omega) _)
end Go.Proofs.YtfmlpaplnkohpaaGreatDoor

namespace Go.Proofs.YtfmlpaplnkohpaaGreatDoor
open Go.RowKit
theorem clone_cellsN (v : Value) (cs : List Cl) (B : Nat) (w : World) (hv : RdCl w (· < B) v cs) (hB : B ≤ w.heap.size) (hl : cs.length ≤ 1048576) :
    Calls Tryz.prog 84 #[v] w (fun e w' => ∃ a c, e = .returned (.slice a cs.length c) ∧ RdCl w' (News w w') (.slice a cs.length c) cs ∧ Below w.heap.size w w') := by
  refine (clone_cells (· < B) v cs.length (clF cs) w hv (fun b (hb : b < B) => by omega) (fun i hi j hj => ?_) (by omega)).mono ?_
  · rcases (show j = 0 ∨ j = 1 by omega) with rfl | rfl <;> rfl
  · rintro e w' ⟨a, c, rfl, h2, h3⟩
    exact ⟨a, c, rfl, (rdCl_of_own h2).more fun b hb => hb, h3⟩
def ColP (w : World) (x : Co) (e : Ending) (w' : World) : Prop := ∃ u, e = .returned (.agg #[.string x.name, u]) ∧ RdCl w' (News w w') u x.cells ∧ Below w.heap.size w w'
set_option maxRecDepth 100000 in
set_option maxHeartbeats 1000000 in
theorem table_column (x : Co) (v : Value) (B : Nat) (w : World) (hv : RdCl w (· < B) v x.cells) (hB : B ≤ w.heap.size) (hl : x.cells.length ≤ 1048576) :
    Calls Tryz.prog 136 #[.agg #[.string x.name, v]] w (ColP w x) := by
  have HCL := hid (fun W (hW : Below w.heap.size w W) => clone_cellsN v x.cells B W (hv.keep fun p (hp : p.block < B) => hW.cell (p := p) (by omega)) (by have := hW.size; omega) hl)
  obtain ⟨a, c, rfl, -⟩ := hv
  obtain ⟨nm, cs⟩ := x
  simp only at HCL hl ⊢
  generalize hn : cs.length = n at *
  have HN := hid hn
  clear hn
  have HB2 : Hid (Below w.heap.size w ((w.alloc (.cells #[.string nm, .slice a n c] 39)).alloc (.cells #[.string ⟨#[]⟩, .slice none 0 0] 39))) := hid (by have := Below.refl w.heap.size w; repeat' (first | (with_reducible exact Below.refl _ _) | (with_reducible assumption) | (with_reducible refine below_drewN ?_) | (with_reducible refine Below.alloc ?_ ?_ _) | (with_reducible refine Below.drew ?_) | (with_reducible refine Below.setCell ?_ ?_ _) | (with_reducible refine Below.trans ?_ (Below.mono (by with_reducible assumption) ?_)) | go_size))
  have HX := hid ((BoxN.new w #[.string nm, .slice a n c] 39).alloc (.cells #[.string ⟨#[]⟩, .slice none 0 0] 39))
  have HO := hid (BoxN.new (w.alloc (.cells #[.string nm, .slice a n c] 39)) #[.string ⟨#[]⟩, .slice none 0 0] 39)
  rw [World.size_alloc] at HO
  go_enter Tryz.func136, Tryz.ntmps136
  go_upto_region 1 with fail
  generalize (w.alloc (.cells #[.string nm, .slice a n c] 39)).alloc (.cells #[.string ⟨#[]⟩, .slice none 0 0] 39) = W2 at *
  have x0 := HX.out.cell 0 rfl
  have x1 := HX.out.cell 1 rfl
  have hz2 := HB2.out.size
  have hoz := HO.out.lt
  go_region_held3 (fun w' => w'.cell? ⟨w.heap.size, 0, none⟩ = some (.string nm) ∧ w'.cell? ⟨w.heap.size, 1, none⟩ = some (.slice a n c))
    (first | exact ⟨s0, s1⟩ | exact ⟨v0, v1⟩ | go_keep)
    ((go_at_call 84; go_must (((with_reducible refine (HCL.out _ (by have h1 := HB2.out; repeat' (first | (with_reducible exact Below.refl _ _) | (with_reducible assumption) | (with_reducible refine below_drewN ?_) | (with_reducible refine Below.alloc ?_ ?_ _) | (with_reducible refine Below.drew ?_) | (with_reducible refine Below.setCell ?_ ?_ _) | (with_reducible refine Below.trans ?_ (Below.mono (by with_reducible assumption) ?_)) | go_size))).mono ?_); rintro e w3 ⟨a3, c3, rfl, hrd3, hb3⟩; have HB3 : Hid (Below W2.heap.size W2 w3) := hid (by have h1 := Below.refl W2.heap.size W2; repeat' (first | (with_reducible exact Below.refl _ _) | (with_reducible assumption) | (with_reducible refine below_drewN ?_) | (with_reducible refine Below.alloc ?_ ?_ _) | (with_reducible refine Below.drew ?_) | (with_reducible refine Below.setCell ?_ ?_ _) | (with_reducible refine Below.trans ?_ (Below.mono (by with_reducible assumption) ?_)) | go_size)); have hx3 := HX.out.below HB3.out HX.out.lt; have ho3 := HO.out.below HB3.out HO.out.lt; have s0 := hx3.cell 0 rfl; have s1 := hx3.cell 1 rfl; have o0 := ho3.cell 0 rfl; have o1 := ho3.cell 1 rfl; have o3 := ho3.frozen 0; have o4 := ho3.frozen 1; have hx4 := ((hx3.other (p := ⟨w.heap.size + 1, 0, none⟩) (by show w.heap.size + 1 ≠ w.heap.size; omega) (.string nm)).other (p := ⟨w.heap.size + 1, 1, none⟩) (by show w.heap.size + 1 ≠ w.heap.size; omega) (.slice a3 n c3)); have v0 := hx4.cell 0 rfl; have v1 := hx4.cell 1 rfl; have HO3 := hid ho3; have HRD3 := hid hrd3; clear hx3 ho3 hb3 hrd3 hx4))))
  all_goals
    clear x0 x1 s0 s1 v0 v1 o0 o1 o3 o4
    have hq := (HO3.out.set 0 (.string nm)).set 1 (.slice a3 n c3)
    have q0 := hq.cell 0 rfl
    have q1 := hq.cell 1 rfl
    clear hq
    go_wp2_with fail
    refine bodyPost_ret (v := .agg #[.string nm, .slice a3 n c3]) (by simp [results, Tryz.results136, go_sem, q0, q1]; done) rfl ⟨_, rfl, ?_, ?_⟩
    · have h3 := HB3.out.size
      refine (HRD3.out.keep fun p hp => ?_).more fun b hb => ?_
      · have hp1 : W2.heap.size ≤ p.block := And.left hp
        have hne : p.block ≠ w.heap.size + 1 := by omega
        rw [World.cell?_setCell_other _ _ _ _ (by intro e; subst e; exact hne rfl), World.cell?_setCell_other _ _ _ _ (by intro e; subst e; exact hne rfl)]
      · have hp1 : W2.heap.size ≤ b := And.left hb
        have hp2 : b < w3.heap.size := And.right hb
        exact ⟨by omega, by simp; omega⟩
    · have h0 : w.heap.size ≤ w.heap.size + 1 := by omega
      have hb3 : Below w.heap.size w w3 := HB2.out.trans (HB3.out.mono hz2)
      exact (hb3.setCell h0 _).setCell h0 _
theorem find_one (t : Ta) (v : Value) (z : Int) (rb B : Nat) (w : World) (hv : ∃ a n c, v = .slice a n c) (h1 : w.cell? ⟨rb, 0, none⟩ = some (.int .i64 z)) :
    Calls Tryz.prog 168 #[.agg #[.int .i64 t.id, .string t.name, v], .pointer (some ⟨rb, 0, none⟩)] w (Ret w (.bool (decide (t.id = z)))) := by
  obtain ⟨a, n, c, rfl⟩ := hv
  obtain ⟨id, nm, xs⟩ := t
  have hrl := World.block_lt_of_cell? _ _ h1
  have n1 : (w.alloc (.cells #[.int .i64 id, .string nm, .slice a n c] 29)).cell? ⟨rb, 0, none⟩ = some (.int .i64 z) := (World.cell?_alloc_lt _ _ _ hrl).trans h1
  have HB := hid ((Below.refl w.heap.size w).alloc (Nat.le_refl _) (.cells #[.int .i64 id, .string nm, .slice a n c] 29))
  simp only
  go_enter Tryz.func168, Tryz.ntmps168
  go_wp2
  go_ret
  exact ⟨ret_bool (by by_cases h : id = z <;> simp [h]), HB.out⟩
set_option maxRecDepth 100000 in
set_option maxHeartbeats 1000000 in
theorem index_tables (v : Value) (ts : List Ta) (B i rb : Nat) (w : World) (hi : i < ts.length) (hu : ∀ j, j < i → (ts.getD j Ta.z).id ≠ (ts.getD i Ta.z).id) (hl : ts.length ≤ 1048576) (hv : RdTa w (· < B) v ts) (hB : B ≤ w.heap.size)
    (h1 : w.cell? ⟨rb, 0, none⟩ = some (.int .i64 (ts.getD i Ta.z).id)) :
    Calls Tryz.prog 167 #[v, .func (.func 168) #[] #[.pointer (some ⟨rb, 0, none⟩)]] w (Ret w (.int .i64 (i : Int))) := by
  obtain ⟨tv, ⟨a, k, rfl, hk, hm, hrd⟩, hco⟩ := hv
  have hrl := World.block_lt_of_cell? _ _ h1
  have HRD := hid hrd
  have HCF : Hid (∀ q, q < ts.length → ∃ ca ck, tv q = .slice ca (ts.getD q Ta.z).cols.length ck) := hid (fun q hq => by
    obtain ⟨cv, ⟨ca, ck, e, -⟩, -⟩ := hco q hq
    exact ⟨ca, ck, e⟩)
  have HF := hid (fun q (hq : q < ts.length) W (hW : Below w.heap.size w W) => find_one (ts.getD q Ta.z) (tv q) (ts.getD i Ta.z).id rb B W (by obtain ⟨ca, ck, e⟩ := HCF.out q hq; exact ⟨_, _, _, e⟩) ((hW.cell (p := ⟨rb, 0, none⟩) hrl).trans h1))
  have HNE := hid (fun q (hq : q < i) => decide_eq_false (hu q hq))
  clear hrd hco h1 hu
  generalize hxl : ts.length = L at *
  have HXL := hid hxl
  clear hxl
  unfold maxLen at hm
  go_enter Tryz.func167, Tryz.ntmps167
  go_wp2_with fail
  go_loopg [8] (i + 1) (fun N u wr => ∃ q : Nat, q + N = i + 1 ∧ 1 ≤ N ∧ u = .int .i64 (q : Int) ∧ Hid (Below w.heap.size w wr))
  case atStart => exact ⟨0, by omega, by omega, rfl, hid (Below.refl _ _)⟩
  case round =>
    obtain ⟨q, hq, hN, rfl, HB⟩ := hrel
    obtain ⟨b, o, rfl, hb, hcell⟩ := HRD.out (by omega)
    have hbw : b < w.heap.size := by have : b < B := hb; omega
    have hwz := HB.out.size
    obtain ⟨ca, ck, hcq⟩ := HCF.out q (by omega)
    have k0 : wr.cell? ⟨b, o + q * 3, none⟩ = some (.int .i64 (ts.getD q Ta.z).id) := (HB.out.cell (p := ⟨b, o + q * 3, none⟩) hbw).trans (hcell q (by omega) 0 (by omega))
    have k1 : wr.cell? ⟨b, o + q * 3 + 1, none⟩ = some (.string (ts.getD q Ta.z).name) := (HB.out.cell (p := ⟨b, o + q * 3 + 1, none⟩) hbw).trans (hcell q (by omega) 1 (by omega))
    have k2 : wr.cell? ⟨b, o + q * 3 + 2, none⟩ = some (tv q) := (HB.out.cell (p := ⟨b, o + q * 3 + 2, none⟩) hbw).trans (hcell q (by omega) 2 (by omega))
    have HFQ := hid (HF.out q (by omega) wr HB.out)
    have hqL : (q : Int) < (L : Int) := by omega
    rw [hcq] at k2 HFQ
    clear hcell hcq
    by_cases hqi : q = i
    · rw [hqi] at HFQ k0 k1 k2 ⊢
      rw [decide_eq_true (rfl : (ts.getD i Ta.z).id = (ts.getD i Ta.z).id)] at HFQ
      have hqL2 : (i : Int) < (L : Int) := by omega
      clear hqi hq hN hqL
      generalize ts.getD i Ta.z = t at *
      obtain ⟨id, nm, xs⟩ := t
      simp only at k0 k1 k2 HFQ
      generalize xs.length = l at *
      go_wp2_with fail
      with_reducible refine HFQ.out.mono ?_
      rintro e w6 ⟨rfl, hb6⟩
      have HB6 := hid (HB.out.trans (hb6.mono hwz))
      clear hb6 k0 k1 k2
      go_wp2
      go_ret
      exact ⟨rfl, HB6.out⟩
    · have hlt : q < i := by omega
      rw [HNE.out q hlt] at HFQ
      generalize ts.getD q Ta.z = t at *
      obtain ⟨id, nm, xs⟩ := t
      simp only at k0 k1 k2 HFQ
      generalize xs.length = l at *
      go_wp2_with fail
      with_reducible refine HFQ.out.mono ?_
      rintro e w6 ⟨rfl, hb6⟩
      have HB6 := hid (HB.out.trans (hb6.mono hwz))
      clear hb6 k0 k1 k2
      go_wp2_with fail
      go_roundg (gk - 1)
      case rel => exact ⟨q + 1, by omega, by omega, by go_num, hid HB6.out⟩
      case measure => omega
theorem table_find (v : Value) (ts : List Ta) (B i : Nat) (w : World) (hi : i < ts.length) (hu : ∀ j, j < i → (ts.getD j Ta.z).id ≠ (ts.getD i Ta.z).id) (hl : ts.length ≤ 1048576) (hv : RdTa w (· < B) v ts) (hB : B ≤ w.heap.size) :
    Calls Tryz.prog 133 #[v, .int .i64 (ts.getD i Ta.z).id] w (Ret w (.int .i64 (i : Int))) := by
  have HI := hid (index_tables v ts B i w.heap.size (w.alloc (.cells #[.int .i64 (ts.getD i Ta.z).id] 3)) hi hu hl (hv.keep fun p (hp : p.block < B) => World.cell?_alloc_lt _ _ _ (by omega)) (by simp; omega) (by simp))
  have HB0 := hid ((Below.refl w.heap.size w).alloc (Nat.le_refl _) (.cells #[.int .i64 (ts.getD i Ta.z).id] 3))
  obtain ⟨a, c, rfl⟩ : ∃ a c, v = .slice a ts.length c := by
    obtain ⟨tv, ⟨a, c, e, -⟩, -⟩ := hv
    exact ⟨a, c, e⟩
  clear hv hu
  generalize (ts.getD i Ta.z).id = z at *
  generalize ts.length = L at *
  go_enter Tryz.func133, Tryz.ntmps133
  go_wp2_with fail
  with_reducible refine HI.out.mono ?_
  rintro e w1 ⟨rfl, hb1⟩
  have HB1 := hid (HB0.out.trans (hb1.mono (by simp)))
  clear hb1
  go_wp2
  go_ret
  exact ⟨rfl, HB1.out⟩
set_option maxRecDepth 100000 in
set_option maxHeartbeats 1000000 in
theorem find_get (xs : List Co) (k tb : Nat) (v : Value) (B : Nat) (W : World) (hk : k < xs.length) (h2 : W.cell? ⟨tb, 2, none⟩ = some v) (hv : RdCo W (· < B) v xs) (hB : B ≤ W.heap.size) (hl : (xs.getD k Co.z).cells.length ≤ 1048576) :
    Calls Tryz.prog 135 #[.int .i64 (k : Int), .pointer (some ⟨tb, 0, none⟩)] W (ColP W (xs.getD k Co.z)) := by
  obtain ⟨cv, ⟨a, c, rfl, hc, hm, hr⟩, hcl⟩ := hv
  obtain ⟨b, o, rfl, hb, hcell⟩ := hr (by omega)
  have hbw : b < W.heap.size := by have : b < B := hb; omega
  have htl := World.block_lt_of_cell? _ _ h2
  have k0 := hcell k hk 0 (by omega)
  have k1 := hcell k hk 1 (by omega)
  simp only [coF, two, Nat.add_zero] at k0 k1
  have hck := hcl k hk
  obtain ⟨xa, xc, hx, -⟩ := id hck
  rw [hx] at k1 hck
  have hs := (Below.refl W.heap.size W).alloc (Nat.le_refl _) (.cells #[.string ⟨#[]⟩, .slice none 0 0] 39)
  have HCOL := hid (table_column (xs.getD k Co.z) (.slice xa (xs.getD k Co.z).cells.length xc) B (W.alloc (.cells #[.string ⟨#[]⟩, .slice none 0 0] 39)) (hck.keep fun p (hp : p.block < B) => hs.cell (p := p) (by omega)) (by simp; omega) hl)
  have HO := hid (BoxN.new W #[.string ⟨#[]⟩, .slice none 0 0] 39)
  have HB0 := hid hs
  have t2 := (hs.cell (p := ⟨tb, 2, none⟩) htl).trans h2
  have m0 := (hs.cell (p := ⟨b, o + k * 2, none⟩) hbw).trans k0
  have m1 := (hs.cell (p := ⟨b, o + k * 2 + 1, none⟩) hbw).trans k1
  have hki : (k : Int) < (xs.length : Int) := by omega
  unfold ColP
  clear hr hcl hcell hck hs hx
  generalize hX : xs.getD k Co.z = x at *
  have HX := hid hX
  clear hX
  obtain ⟨nm, cs⟩ := x
  simp only at k0 k1 m0 m1 HCOL hl
  generalize cs.length = n at *
  generalize xs.length = L at *
  go_enter Tryz.func135, Tryz.ntmps135
  go_wp2_with fail
  with_reducible refine HCOL.out.mono ?_
  rintro e w3 ⟨u, rfl, hrd, hb3⟩
  obtain ⟨ua, uc, hu, -⟩ := id hrd
  simp only at hrd hu
  subst hu
  have ho := HO.out.below hb3 HO.out.lt
  have f0 := ho.frozen 0
  have f1 := ho.frozen 1
  have o0 := ho.cell 0 rfl
  have o1 := ho.cell 1 rfl
  have HB3 := hid (HB0.out.trans (hb3.mono HB0.out.size))
  have hw0 := HB0.out.size
  have hz0 : (W.alloc (.cells #[.string ⟨#[]⟩, .slice none 0 0] 39)).heap.size = W.heap.size + 1 := by simp
  have HRD := hid hrd
  clear hb3 ho hrd t2 m0 m1 k0 k1 h2
  generalize hcn : cs.length = cn at *
  have HCN := hid hcn
  clear hcn
  go_wp2
  refine bodyPost_ret (v := .agg #[.string nm, .slice ua cn uc]) (by simp [results, Tryz.results135, go_sem, o0, o1]) rfl ?_
  refine ⟨_, rfl, (HRD.out.keep fun p hp => ?_).more fun b hb => ?_, (HB3.out.setCell (p := ⟨W.heap.size, 0, none⟩) (Nat.le_refl _) _).setCell (p := ⟨W.heap.size, 1, none⟩) (Nat.le_refl _) _⟩
  · have hp1 := hp.1
    rw [World.cell?_setCell_other _ _ _ _ (by intro e; subst e; simp at hp1; omega), World.cell?_setCell_other _ _ _ _ (by intro e; subst e; simp at hp1; omega)]
  · have h1 := hb.1
    have h2 := hb.2
    exact ⟨by omega, by simp; omega⟩
end Go.Proofs.YtfmlpaplnkohpaaGreatDoor

namespace Go.Proofs.YtfmlpaplnkohpaaGreatDoor
open Go.RowKit
set_option maxRecDepth 100000 in
set_option maxHeartbeats 4000000 in
theorem table_with (id : Int) (nm : ByteArray) (xs : List Co) (tb : Nat) (v : Value) (B : Nat) (w : World) (h2 : w.cell? ⟨tb, 2, none⟩ = some v) (hv : RdCo w (· < B) v xs) (hB : B ≤ w.heap.size) (hl : xs.length ≤ 1048576) (hc : ∀ x ∈ xs, x.cells.length ≤ 1048576) :
    Calls Tryz.prog 134 #[.agg #[.int .i64 id, .string nm, v], .int .i64 (xs.length : Int), .func (.func 135) #[] #[.pointer (some ⟨tb, 0, none⟩)]] w (NewT w id nm xs) := by
  have htl := World.block_lt_of_cell? _ _ h2
  have HGET := hid (fun q (hq : q < xs.length) W (hW : Below w.heap.size w W) => find_get xs q tb v B W hq ((hW.cell (p := ⟨tb, 2, none⟩) htl).trans h2) (hv.keep fun p (hp : p.block < B) => hW.cell (p := p) (by omega)) (Nat.le_trans hB hW.size) (hc _ (getD_mem hq Co.z)))
  obtain ⟨va, vc, rfl⟩ : ∃ a c, v = .slice a xs.length c := by
    obtain ⟨cv, ⟨a, c, e, -⟩, -⟩ := hv
    exact ⟨a, c, e⟩
  obtain ⟨i0, hi, hz0, hz1, hz2⟩ := info_parts info_col
  have HSN := hid (fun q (h : q < xs.length) => @take_snocC xs q h)
  clear hv hc h2
  generalize hxl : xs.length = L at *
  have HXL := hid hxl
  clear hxl
  go_enter Tryz.func134, Tryz.ntmps134
  generalize hLA : Code.loop _ = LA
  go_wp2_with fail
  have hy0 := (BoxN.new (w.alloc (.cells #[.int .i64 id, .string nm, .slice va L vc] 29)) #[.int .i64 0, .string ⟨#[]⟩, .slice none 0 0] 29).alloc (.cells #[.int .i64 id, .string nm, .slice none 0 0] 29)
  have ho0 := BoxN.new ((w.alloc (.cells #[.int .i64 id, .string nm, .slice va L vc] 29)).alloc (.cells #[.int .i64 0, .string ⟨#[]⟩, .slice none 0 0] 29)) #[.int .i64 id, .string nm, .slice none 0 0] 29
  rw [World.size_alloc] at hy0
  rw [World.size_alloc, World.size_alloc] at ho0
  have HY0 := hid hy0
  have HO0 := hid ho0
  have HB0 := hid ((((Below.refl w.heap.size w).alloc (Nat.le_refl _) (.cells #[.int .i64 id, .string nm, .slice va L vc] 29)).alloc (by simp) (.cells #[.int .i64 0, .string ⟨#[]⟩, .slice none 0 0] 29)).alloc (by simp; omega) (.cells #[.int .i64 id, .string nm, .slice none 0 0] 29))
  have hz0' : (((w.alloc (.cells #[.int .i64 id, .string nm, .slice va L vc] 29)).alloc (.cells #[.int .i64 0, .string ⟨#[]⟩, .slice none 0 0] 29)).alloc (.cells #[.int .i64 id, .string nm, .slice none 0 0] 29)).heap.size = w.heap.size + 3 := by simp
  clear hy0 ho0
  generalize ((w.alloc (.cells #[.int .i64 id, .string nm, .slice va L vc] 29)).alloc (.cells #[.int .i64 0, .string ⟨#[]⟩, .slice none 0 0] 29)).alloc (.cells #[.int .i64 id, .string nm, .slice none 0 0] 29) = W0 at *
  subst hLA
  go_loopg [15] L (fun N i wr => ∃ (q : Nat) (y : Value), i = .int .i64 (q : Int) ∧ q + N = L ∧ Hid (ToSt w W0 wr (w.heap.size + 2) W0.heap.size id nm y (xs.take q)))
  case atStart => exact ⟨0, .slice none 0 0, rfl, by omega, hid ⟨HB0.out, HO0.out, CoSt.start (Nat.le_refl _), Nat.le_refl _, fun _ _ _ => rfl⟩⟩
  case round =>
    obtain ⟨q, y, rfl, hq, HST⟩ := hrel
    have hlo := HST.out.low
    have HQL : Hid ((xs.take q).length = q) := hid (by rw [List.length_take]; have := HXL.out; omega)
    by_cases hp : 0 < gk
    · have hqL : q < L := by omega
      have HSNq := hid (HSN.out q hqL)
      obtain ⟨L0, hL0⟩ := HST.out.own.owns
      rw [HQL.out] at hL0
      obtain ⟨ya, yc, rfl⟩ := own_slice hL0
      have HL0 := hid hL0
      have HGQ := hid (HGET.out q hqL)
      clear hL0
      generalize xs.getD q Co.z = x at *
      obtain ⟨xn, xc⟩ := x
      have hwr := HST.out.bel.size
      have hqi : (q : Int) < (L : Int) := by omega
      have s0 : wr.cell? ⟨w.heap.size + 2, 2, none⟩ = some (.slice ya q yc) := HST.out.box.cell 2 rfl
      have sf : wr.frozen? ⟨w.heap.size + 2, 2, none⟩ = false := HST.out.box.frozen 2
      go_upto_region 5 with fail
      have HST2 := hid (HST.out.later (W' := wr.drew) (by have h1 := Below.refl wr.heap.size wr; repeat' (first | (with_reducible exact Below.refl _ _) | (with_reducible assumption) | (with_reducible refine below_drewN ?_) | (with_reducible refine Below.alloc ?_ ?_ _) | (with_reducible refine Below.drew ?_) | (with_reducible refine Below.setCell ?_ ?_ _) | (with_reducible refine Below.trans ?_ (Below.mono (by with_reducible assumption) ?_)) | go_size)) HST.out.bel.size (by omega))
      have HLW := hid (HL0.out.drew)
      have HZW : Hid (wr.drew.heap.size = wr.heap.size) := hid rfl
      go_region_law (first
        | (go_simp; go_at_call 135; go_must (((with_reducible refine (HGQ.out _ HST2.out.bel).mono ?_); rintro e w6 ⟨u6, rfl, hrd6, hb6⟩; have h6 := hrd6; obtain ⟨ua, uc, hu6, -⟩ := h6; (try simp only at hu6); subst hu6; have HB6 := hid hb6; have HRD6 := hid hrd6; have hz6 : wr.heap.size ≤ w6.heap.size := Nat.le_trans (Nat.le_of_eq HZW.out.symm) hb6.size; have HST6 := hid (HST2.out.later hb6 HST2.out.bel.size (by omega)); have HL6 := hid (own_later HLW.out hb6); have s6 : w6.cell? ⟨w.heap.size + 2, 2, none⟩ = some (.slice ya q yc) := HST6.out.box.cell 2 rfl; have HST7 := hid (HST6.out.later (W' := w6.alloc (.cells #[.string xn, .slice ua xc.length uc] 39)) ((Below.refl _ _).alloc (Nat.le_refl _) _) HST6.out.bel.size (by omega)); have s7 : (w6.alloc (.cells #[.string xn, .slice ua xc.length uc] 39)).cell? ⟨w.heap.size + 2, 2, none⟩ = some (.slice ya q yc) := HST7.out.box.cell 2 rfl; have HL7 := hid (HL6.out.alloc (.cells #[.string xn, .slice ua xc.length uc] 39)); have HN7 := hid (BoxN.new w6 #[.string xn, .slice ua xc.length uc] 39); clear hrd6 hb6)))
        | ((refine step_append_form _ rfl (.tmp 19) (.tmp 23) 27 27 rfl W0.heap.size 39 39 i0 (.agg #[.string ⟨#[]⟩, .slice none 0 0]) 2 40 Tryz.underlying27 Tryz.underlying27 hi hz0 hz1 hz2 rfl (by decide) (.slice ya q yc) q _ rfl HL7.out (some ⟨w6.heap.size, 0, none⟩) 1 1 [.string xn, .slice ua xc.length uc] rfl rfl (fun _ => ⟨_, rfl, World.news_of_block HN7.out⟩) (by intro u hu; simp at hu; rcases hu with rfl | rfl <;> rfl) (by omega) (by unfold maxLen; omega) (by omega) (by simp; omega) ?_); intro p8 cap8 w8 hown8 hg8 hat8 hlt8; have hbx8 := HST7.out.box.grown hg8 (fun e => by have := HL7.out.lt _ e.symm; omega); have q1 : w8.cell? ⟨w.heap.size + 2, 2, none⟩ = some (.slice ya q yc) := hbx8.cell 2 rfl; have fq1 := hbx8.frozen 2; have HG8 := hid hg8; have HOWN8 := hid hown8; have HAT8 := hid hat8; clear hown8 hg8 hat8 hbx8))
      all_goals
        have HNEW : Hid (RdCl (w6.alloc (.cells #[.string xn, .slice ua xc.length uc] 39)) (Own (w6.alloc (.cells #[.string xn, .slice ua xc.length uc] 39)) W0.heap.size (.slice ya q yc)) (.slice ua xc.length uc) xc) := hid ((HRD6.out.keep (fun p hp => World.cell?_alloc_lt _ _ _ hp.2)).more (fun b hb => ⟨by have h1 := hb.1; rw [HZW.out] at h1; omega, by have h1 := hb.2; simp; omega, fun e => by have h1 := (HL0.out.lt _ e).2; have h2 := hb.1; rw [HZW.out] at h2; omega⟩))
        clear q1 fq1 s0 sf s6 s7
        go_wp2
        go_roundg (gk - 1)
        case rel => exact ⟨q + 1, _, by go_num, by omega, hid (by rw [HSNq.out]; exact HST7.out.push (x := ⟨xn, xc⟩) (by rw [HQL.out]) (by rw [HQL.out]; exact HL7.out) HOWN8.out HG8.out HAT8.out HNEW.out (by omega) (by omega))⟩
        case measure => omega
    · obtain rfl : gk = 0 := by omega
      obtain rfl : q = L := by omega
      have hy2 := (show BoxN wr (w.heap.size + 1) _ _ from (HST.out.keep (w.heap.size + 1) (by omega) (by omega)).trans HY0.out)
      obtain ⟨L0, hL0⟩ := HST.out.own.owns
      rw [HQL.out] at hL0
      obtain ⟨ya, yc, rfl⟩ := own_slice hL0
      have c0 := hy2.cell 0 rfl
      have c1 := hy2.cell 1 rfl
      have c2 := hy2.cell 2 rfl
      have f0 := hy2.frozen 0
      have f1 := hy2.frozen 1
      have f2 := hy2.frozen 2
      have e0 : wr.cell? ⟨w.heap.size + 2, 0, none⟩ = some (.int .i64 id) := HST.out.box.cell 0 rfl
      have e1 : wr.cell? ⟨w.heap.size + 2, 1, none⟩ = some (.string nm) := HST.out.box.cell 1 rfl
      have e2 : wr.cell? ⟨w.heap.size + 2, 2, none⟩ = some (.slice ya q yc) := HST.out.box.cell 2 rfl
      have HTX : Hid (xs.take q = xs) := hid (List.take_of_length_le (by have := HXL.out; omega))
      clear hy2 hL0
      go_wp2
      have hwr := HST.out.bel.size
      refine bodyPost_ret (v := .agg #[.int .i64 id, .string nm, .slice ya q yc]) (by simp [results, Tryz.results134, go_sem, c0, c1, c2]) rfl ⟨_, rfl, ?_, by have := HST.out.bel; repeat' (first | (with_reducible exact Below.refl _ _) | (with_reducible assumption) | (with_reducible refine below_drewN ?_) | (with_reducible refine Below.alloc ?_ ?_ _) | (with_reducible refine Below.drew ?_) | (with_reducible refine Below.setCell ?_ ?_ _) | (with_reducible refine Below.trans ?_ (Below.mono (by with_reducible assumption) ?_)) | go_size)⟩
      have hown := HST.out.own
      rw [HTX.out] at hown
      exact (((hown.setCell (p := ⟨w.heap.size + 1, 0, none⟩) (by show w.heap.size + 1 < W0.heap.size; omega) _).setCell (p := ⟨w.heap.size + 1, 1, none⟩) (by show w.heap.size + 1 < W0.heap.size; omega) _).setCell (p := ⟨w.heap.size + 1, 2, none⟩) (by show w.heap.size + 1 < W0.heap.size; omega) _).lower (by omega)
end Go.Proofs.YtfmlpaplnkohpaaGreatDoor
