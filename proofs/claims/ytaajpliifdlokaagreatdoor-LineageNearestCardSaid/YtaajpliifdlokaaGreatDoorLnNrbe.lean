/- Contracts of table.column, table.find, table.with, table.Find, where the table is there. Contracts of table.with at the columns of a table, and of table.Find where the table is there. Contract of table.Find where the table is there. -/
import Derived.Deep.RegionHeld3
import Derived.Deep.RegionLawGrows
import Derived.Test.YtaajpliifdlokaaGreatDoorLnNral
import Derived.Test.YtaajpliifdlokaaGreatDoorLnNrag
set_option linter.unusedVariables false
set_option linter.unusedSimpArgs false
namespace Go.Proofs.YtaajpliifdlokaaGreatDoor
open Go.RowKit
theorem clone_cellsN (v : Value) (cs : List Cl) (B : Nat) (w : World) (hv : RdCl w (· < B) v cs) (hB : B ≤ w.heap.size) (hl : cs.length ≤ 1048576) :
    Calls Tryz.prog 238 #[v] w (fun e w' => ∃ a c, e = .returned (.slice a cs.length c) ∧ RdCl w' (News w w') (.slice a cs.length c) cs ∧ Below w.heap.size w w') := by
  refine (clone_cells (· < B) v cs.length (clF cs) w hv (fun b (hb : b < B) => by omega) (fun i hi j hj => ?_) (by omega)).mono ?_
  · rcases (show j = 0 ∨ j = 1 by omega) with rfl | rfl <;> rfl
  · rintro e w' ⟨a, c, rfl, h2, h3⟩
    exact ⟨a, c, rfl, (rdCl_of_own h2).more fun b hb => hb, h3⟩
def ColP (w : World) (x : Co) (e : Ending) (w' : World) : Prop := ∃ u, e = .returned (.agg #[.string x.name, u]) ∧ RdCl w' (News w w') u x.cells ∧ Below w.heap.size w w'
set_option maxRecDepth 100000 in
set_option maxHeartbeats 1000000 in
theorem table_column (x : Co) (v : Value) (B : Nat) (w : World) (hv : RdCl w (· < B) v x.cells) (hB : B ≤ w.heap.size) (hl : x.cells.length ≤ 1048576) :
  Calls Tryz.prog 211 #[.agg #[.string x.name, v]] w (ColP w x) := by
 have HCL := hid (fun W (hW : Below w.heap.size w W) => clone_cellsN v x.cells B W (hv.keep fun p (hp : p.block < B) => hW.cell (p := p) (by omega)) (by have := hW.size; omega) hl)
 obtain ⟨a, c, rfl, -⟩ := hv
 obtain ⟨nm, cs⟩ := x
 simp only at HCL hl ⊢
 generalize hn : cs.length = n at *
 have HN := hid hn
 clear hn
 have HB2 : Hid (Below w.heap.size w ((w.alloc (.cells #[.string nm, .slice a n c] 55)).alloc (.cells #[.string ⟨#[]⟩, .slice none 0 0] 55))) := hid (by have := Below.refl w.heap.size w; repeat' (first | (with_reducible exact Below.refl _ _) | (with_reducible assumption) | (with_reducible refine below_drewN ?_) | (with_reducible refine Below.alloc ?_ ?_ _) | (with_reducible refine Below.drew ?_) | (with_reducible refine Below.setCell ?_ ?_ _) | (with_reducible refine Below.trans ?_ (Below.mono (by with_reducible assumption) ?_)) | go_size))
 have HX := hid ((BoxN.new w #[.string nm, .slice a n c] 55).alloc (.cells #[.string ⟨#[]⟩, .slice none 0 0] 55))
 have HO := hid (BoxN.new (w.alloc (.cells #[.string nm, .slice a n c] 55)) #[.string ⟨#[]⟩, .slice none 0 0] 55)
 rw [World.size_alloc] at HO
 go_enter Tryz.func211, Tryz.ntmps211
 go_upto_region 1 with fail
 generalize (w.alloc (.cells #[.string nm, .slice a n c] 55)).alloc (.cells #[.string ⟨#[]⟩, .slice none 0 0] 55) = W2 at *
 have x0 := HX.out.cell 0 rfl
 have x1 := HX.out.cell 1 rfl
 have hz2 := HB2.out.size
 have hoz := HO.out.lt
 go_region_held3 (fun w' => w'.cell? ⟨w.heap.size, 0, none⟩ = some (.string nm) ∧ w'.cell? ⟨w.heap.size, 1, none⟩ = some (.slice a n c))
  (first | exact ⟨s0, s1⟩ | exact ⟨v0, v1⟩ | go_keep)
  ((go_at_call 238; go_must (((with_reducible refine (HCL.out _ (by have h1 := HB2.out; repeat' (first | (with_reducible exact Below.refl _ _) | (with_reducible assumption) | (with_reducible refine below_drewN ?_) | (with_reducible refine Below.alloc ?_ ?_ _) | (with_reducible refine Below.drew ?_) | (with_reducible refine Below.setCell ?_ ?_ _) | (with_reducible refine Below.trans ?_ (Below.mono (by with_reducible assumption) ?_)) | go_size))).mono ?_); rintro e w3 ⟨a3, c3, rfl, hrd3, hb3⟩; have HB3 : Hid (Below W2.heap.size W2 w3) := hid (by have h1 := Below.refl W2.heap.size W2; repeat' (first | (with_reducible exact Below.refl _ _) | (with_reducible assumption) | (with_reducible refine below_drewN ?_) | (with_reducible refine Below.alloc ?_ ?_ _) | (with_reducible refine Below.drew ?_) | (with_reducible refine Below.setCell ?_ ?_ _) | (with_reducible refine Below.trans ?_ (Below.mono (by with_reducible assumption) ?_)) | go_size)); have hx3 := HX.out.below HB3.out HX.out.lt; have ho3 := HO.out.below HB3.out HO.out.lt; have s0 := hx3.cell 0 rfl; have s1 := hx3.cell 1 rfl; have o0 := ho3.cell 0 rfl; have o1 := ho3.cell 1 rfl; have o3 := ho3.frozen 0; have o4 := ho3.frozen 1; have hx4 := ((hx3.other (p := ⟨w.heap.size + 1, 0, none⟩) (by show w.heap.size + 1 ≠ w.heap.size; omega) (.string nm)).other (p := ⟨w.heap.size + 1, 1, none⟩) (by show w.heap.size + 1 ≠ w.heap.size; omega) (.slice a3 n c3)); have v0 := hx4.cell 0 rfl; have v1 := hx4.cell 1 rfl; have HO3 := hid ho3; have HRD3 := hid hrd3; clear hx3 ho3 hb3 hrd3 hx4))))
 all_goals
  clear x0 x1 s0 s1 v0 v1 o0 o1 o3 o4
  have hq := (HO3.out.set 0 (.string nm)).set 1 (.slice a3 n c3)
  have q0 := hq.cell 0 rfl
  have q1 := hq.cell 1 rfl
  clear hq
  go_wp2_with fail
  refine bodyPost_ret (v := .agg #[.string nm, .slice a3 n c3]) (by simp [results, Tryz.results211, go_sem, q0, q1]; done) rfl ⟨_, rfl, ?_, ?_⟩
  ·have h3 := HB3.out.size
   refine (HRD3.out.keep fun p hp => ?_).more fun b hb => ?_
   ·have hp1 : W2.heap.size ≤ p.block := And.left hp
    have hne : p.block ≠ w.heap.size + 1 := by omega
    rw [World.cell?_setCell_other _ _ _ _ (by intro e; subst e; exact hne rfl), World.cell?_setCell_other _ _ _ _ (by intro e; subst e; exact hne rfl)]
   ·have hp1 : W2.heap.size ≤ b := And.left hb
    have hp2 : b < w3.heap.size := And.right hb
    exact ⟨by omega, by simp; omega⟩
  ·have h0 : w.heap.size ≤ w.heap.size + 1 := by omega
   have hb3 : Below w.heap.size w w3 := HB2.out.trans (HB3.out.mono hz2)
   exact (hb3.setCell h0 _).setCell h0 _
theorem find_one (t : Ta) (v : Value) (z : Int) (rb B : Nat) (w : World) (hv : ∃ a n c, v = .slice a n c) (h1 : w.cell? ⟨rb, 0, none⟩ = some (.int .i64 z)) :
    Calls Tryz.prog 237 #[.agg #[.int .i64 t.id, .string t.name, v], .pointer (some ⟨rb, 0, none⟩)] w (Ret w (.bool (decide (t.id = z)))) := by
  obtain ⟨a, n, c, rfl⟩ := hv
  obtain ⟨id, nm, xs⟩ := t
  have hrl := World.block_lt_of_cell? _ _ h1
  have n1 : (w.alloc (.cells #[.int .i64 id, .string nm, .slice a n c] 51)).cell? ⟨rb, 0, none⟩ = some (.int .i64 z) := (World.cell?_alloc_lt _ _ _ hrl).trans h1
  have HB := hid ((Below.refl w.heap.size w).alloc (Nat.le_refl _) (.cells #[.int .i64 id, .string nm, .slice a n c] 51))
  simp only
  go_enter Tryz.func237, Tryz.ntmps237
  go_wp2
  go_ret
  exact ⟨ret_bool (by by_cases h : id = z <;> simp [h]), HB.out⟩
set_option maxRecDepth 100000 in
set_option maxHeartbeats 1000000 in
theorem index_tables (v : Value) (ts : List Ta) (B i rb : Nat) (w : World) (hi : i < ts.length) (hu : ∀ j, j < i → (ts.getD j Ta.z).id ≠ (ts.getD i Ta.z).id) (hl : ts.length ≤ 1048576) (hv : RdTa w (· < B) v ts) (hB : B ≤ w.heap.size)
  (h1 : w.cell? ⟨rb, 0, none⟩ = some (.int .i64 (ts.getD i Ta.z).id)) :
  Calls Tryz.prog 236 #[v, .func (.func 237) #[] #[.pointer (some ⟨rb, 0, none⟩)]] w (Ret w (.int .i64 (i : Int))) := by
 obtain ⟨tv, ⟨a, k, rfl, hk, hm, hrd⟩, hco⟩ := hv
 have hrl := World.block_lt_of_cell? _ _ h1
 have HRD := hid hrd
 have HCF : Hid (∀ q, q < ts.length → ∃ ca ck, tv q = .slice ca (ts.getD q Ta.z).cols.length ck) := hid (fun q hq => by
  obtain ⟨cv, ⟨ca, ck, e, -⟩, -⟩ := hco q hq
  exact ⟨ca, ck, e⟩)
 have HF := hid (fun q (hq : q < ts.length) W (hW : Below w.heap.size w W) => find_one (ts.getD q Ta.z) (tv q) (ts.getD i Ta.z).id rb B W (by obtain ⟨ca, ck, e⟩ := HCF.out q hq; exact ⟨_, _, _, e⟩) ((hW.cell (p := ⟨rb, 0, none⟩) hrl).trans h1))
 have HNE := hid (fun q (hq : q < i) => decide_eq_false (hu q hq))
 clear hrd hco h1 hu
 generalize hxl : ts.length = L at *
 have HXL := hid hxl
 clear hxl
 unfold maxLen at hm
 go_enter Tryz.func236, Tryz.ntmps236
 go_wp2_with fail
 go_loopg [8] (i + 1) (fun N u wr => ∃ q : Nat, q + N = i + 1 ∧ 1 ≤ N ∧ u = .int .i64 (q : Int) ∧ Hid (Below w.heap.size w wr))
 case atStart => exact ⟨0, by omega, by omega, rfl, hid (Below.refl _ _)⟩
 case round =>
  obtain ⟨q, hq, hN, rfl, HB⟩ := hrel
  obtain ⟨b, o, rfl, hb, hcell⟩ := HRD.out (by omega)
  have hbw : b < w.heap.size := by have : b < B := hb; omega
  have hwz := HB.out.size
  obtain ⟨ca, ck, hcq⟩ := HCF.out q (by omega)
  have k0 : wr.cell? ⟨b, o + q * 3, none⟩ = some (.int .i64 (ts.getD q Ta.z).id) := (HB.out.cell (p := ⟨b, o + q * 3, none⟩) hbw).trans (hcell q (by omega) 0 (by omega))
  have k1 : wr.cell? ⟨b, o + q * 3 + 1, none⟩ = some (.string (ts.getD q Ta.z).name) := (HB.out.cell (p := ⟨b, o + q * 3 + 1, none⟩) hbw).trans (hcell q (by omega) 1 (by omega))
  have k2 : wr.cell? ⟨b, o + q * 3 + 2, none⟩ = some (tv q) := (HB.out.cell (p := ⟨b, o + q * 3 + 2, none⟩) hbw).trans (hcell q (by omega) 2 (by omega))
  have HFQ := hid (HF.out q (by omega) wr HB.out)
  have hqL : (q : Int) < (L : Int) := by omega
  rw [hcq] at k2 HFQ
  clear hcell hcq
  by_cases hqi : q = i
  ·rw [hqi] at HFQ k0 k1 k2 ⊢
   rw [decide_eq_true (rfl : (ts.getD i Ta.z).id = (ts.getD i Ta.z).id)] at HFQ
   have hqL2 : (i : Int) < (L : Int) := by omega
   clear hqi hq hN hqL
   generalize ts.getD i Ta.z = t at *
   obtain ⟨id, nm, xs⟩ := t
   simp only at k0 k1 k2 HFQ
   generalize xs.length = l at *
   go_wp2_with fail
   with_reducible refine HFQ.out.mono ?_
   rintro e w6 ⟨rfl, hb6⟩
   have HB6 := hid (HB.out.trans (hb6.mono hwz))
   clear hb6 k0 k1 k2
   go_wp2
   go_ret
   exact ⟨rfl, HB6.out⟩
  ·have hlt : q < i := by omega
   rw [HNE.out q hlt] at HFQ
   generalize ts.getD q Ta.z = t at *
   obtain ⟨id, nm, xs⟩ := t
   simp only at k0 k1 k2 HFQ
   generalize xs.length = l at *
   go_wp2_with fail
   with_reducible refine HFQ.out.mono ?_
   rintro e w6 ⟨rfl, hb6⟩
   have HB6 := hid (HB.out.trans (hb6.mono hwz))
   clear hb6 k0 k1 k2
   go_wp2_with fail
   go_roundg (gk - 1)
   case rel => exact ⟨q + 1, by omega, by omega, by go_num, hid HB6.out⟩
   case measure => omega
theorem table_find (v : Value) (ts : List Ta) (B i : Nat) (w : World) (hi : i < ts.length) (hu : ∀ j, j < i → (ts.getD j Ta.z).id ≠ (ts.getD i Ta.z).id) (hl : ts.length ≤ 1048576) (hv : RdTa w (· < B) v ts) (hB : B ≤ w.heap.size) :
    Calls Tryz.prog 208 #[v, .int .i64 (ts.getD i Ta.z).id] w (Ret w (.int .i64 (i : Int))) := by
  have HI := hid (index_tables v ts B i w.heap.size (w.alloc (.cells #[.int .i64 (ts.getD i Ta.z).id] 3)) hi hu hl (hv.keep fun p (hp : p.block < B) => World.cell?_alloc_lt _ _ _ (by omega)) (by simp; omega) (by simp))
  have HB0 := hid ((Below.refl w.heap.size w).alloc (Nat.le_refl _) (.cells #[.int .i64 (ts.getD i Ta.z).id] 3))
  obtain ⟨a, c, rfl⟩ : ∃ a c, v = .slice a ts.length c := by
    obtain ⟨tv, ⟨a, c, e, -⟩, -⟩ := hv
    exact ⟨a, c, e⟩
  clear hv hu
  generalize (ts.getD i Ta.z).id = z at *
  generalize ts.length = L at *
  go_enter Tryz.func208, Tryz.ntmps208
  go_wp2_with fail
  with_reducible refine HI.out.mono ?_
  rintro e w1 ⟨rfl, hb1⟩
  have HB1 := hid (HB0.out.trans (hb1.mono (by simp)))
  clear hb1
  go_wp2
  go_ret
  exact ⟨rfl, HB1.out⟩
set_option maxRecDepth 100000 in
set_option maxHeartbeats 1000000 in
theorem find_get (xs : List Co) (k tb : Nat) (v : Value) (B : Nat) (W : World) (hk : k < xs.length) (h2 : W.cell? ⟨tb, 2, none⟩ = some v) (hv : RdCo W (· < B) v xs) (hB : B ≤ W.heap.size) (hl : (xs.getD k Co.z).cells.length ≤ 1048576) :
    Calls Tryz.prog 210 #[.int .i64 (k : Int), .pointer (some ⟨tb, 0, none⟩)] W (ColP W (xs.getD k Co.z)) := by
  obtain ⟨cv, ⟨a, c, rfl, hc, hm, hr⟩, hcl⟩ := hv
  obtain ⟨b, o, rfl, hb, hcell⟩ := hr (by omega)
  have hbw : b < W.heap.size := by have : b < B := hb; omega
  have htl := World.block_lt_of_cell? _ _ h2
  have k0 := hcell k hk 0 (by omega)
  have k1 := hcell k hk 1 (by omega)
  simp only [coF, two, Nat.add_zero] at k0 k1
  have hck := hcl k hk
  obtain ⟨xa, xc, hx, -⟩ := id hck
  rw [hx] at k1 hck
  have hs := (Below.refl W.heap.size W).alloc (Nat.le_refl _) (.cells #[.string ⟨#[]⟩, .slice none 0 0] 55)
  have HCOL := hid (table_column (xs.getD k Co.z) (.slice xa (xs.getD k Co.z).cells.length xc) B (W.alloc (.cells #[.string ⟨#[]⟩, .slice none 0 0] 55)) (hck.keep fun p (hp : p.block < B) => hs.cell (p := p) (by omega)) (by simp; omega) hl)
  have HO := hid (BoxN.new W #[.string ⟨#[]⟩, .slice none 0 0] 55)
  have HB0 := hid hs
  have t2 := (hs.cell (p := ⟨tb, 2, none⟩) htl).trans h2
  have m0 := (hs.cell (p := ⟨b, o + k * 2, none⟩) hbw).trans k0
  have m1 := (hs.cell (p := ⟨b, o + k * 2 + 1, none⟩) hbw).trans k1
  have hki : (k : Int) < (xs.length : Int) := by omega
  unfold ColP
  clear hr hcl hcell hck hs hx
  generalize hX : xs.getD k Co.z = x at *
  have HX := hid hX
  clear hX
  obtain ⟨nm, cs⟩ := x
  simp only at k0 k1 m0 m1 HCOL hl
  generalize cs.length = n at *
  generalize xs.length = L at *
  go_enter Tryz.func210, Tryz.ntmps210
  go_wp2_with fail
  with_reducible refine HCOL.out.mono ?_
  rintro e w3 ⟨u, rfl, hrd, hb3⟩
  obtain ⟨ua, uc, hu, -⟩ := id hrd
  simp only at hrd hu
  subst hu
  have ho := HO.out.below hb3 HO.out.lt
  have f0 := ho.frozen 0
  have f1 := ho.frozen 1
  have o0 := ho.cell 0 rfl
  have o1 := ho.cell 1 rfl
  have HB3 := hid (HB0.out.trans (hb3.mono HB0.out.size))
  have hw0 := HB0.out.size
  have hz0 : (W.alloc (.cells #[.string ⟨#[]⟩, .slice none 0 0] 55)).heap.size = W.heap.size + 1 := by simp
  have HRD := hid hrd
  clear hb3 ho hrd t2 m0 m1 k0 k1 h2
  generalize hcn : cs.length = cn at *
  have HCN := hid hcn
  clear hcn
  go_wp2
  refine bodyPost_ret (v := .agg #[.string nm, .slice ua cn uc]) (by simp [results, Tryz.results210, go_sem, o0, o1]) rfl ?_
  refine ⟨_, rfl, (HRD.out.keep fun p hp => ?_).more fun b hb => ?_, (HB3.out.setCell (p := ⟨W.heap.size, 0, none⟩) (Nat.le_refl _) _).setCell (p := ⟨W.heap.size, 1, none⟩) (Nat.le_refl _) _⟩
  · have hp1 := hp.1
    rw [World.cell?_setCell_other _ _ _ _ (by intro e; subst e; simp at hp1; omega), World.cell?_setCell_other _ _ _ _ (by intro e; subst e; simp at hp1; omega)]
  · have h1 := hb.1
    have h2 := hb.2
    exact ⟨by omega, by simp; omega⟩
end Go.Proofs.YtaajpliifdlokaaGreatDoor

namespace Go.Proofs.YtaajpliifdlokaaGreatDoor
open Go.RowKit
set_option maxRecDepth 100000 in
set_option maxHeartbeats 4000000 in
theorem table_with (id : Int) (nm : ByteArray) (xs : List Co) (tb : Nat) (v : Value) (B : Nat) (w : World) (h2 : w.cell? ⟨tb, 2, none⟩ = some v) (hv : RdCo w (· < B) v xs) (hB : B ≤ w.heap.size) (hl : xs.length ≤ 1048576) (hc : ∀ x ∈ xs, x.cells.length ≤ 1048576) :
  Calls Tryz.prog 209 #[.agg #[.int .i64 id, .string nm, v], .int .i64 (xs.length : Int), .func (.func 210) #[] #[.pointer (some ⟨tb, 0, none⟩)]] w (NewT w id nm xs) := by
 have htl := World.block_lt_of_cell? _ _ h2
 have HGET := hid (fun q (hq : q < xs.length) W (hW : Below w.heap.size w W) => find_get xs q tb v B W hq ((hW.cell (p := ⟨tb, 2, none⟩) htl).trans h2) (hv.keep fun p (hp : p.block < B) => hW.cell (p := p) (by omega)) (Nat.le_trans hB hW.size) (hc _ (getD_mem hq Co.z)))
 obtain ⟨va, vc, rfl⟩ : ∃ a c, v = .slice a xs.length c := by
  obtain ⟨cv, ⟨a, c, e, -⟩, -⟩ := hv
  exact ⟨a, c, e⟩
 obtain ⟨i0, hi, hz0, hz1, hz2⟩ := info_parts info_col
 have HSN := hid (fun q (h : q < xs.length) => @take_snocC xs q h)
 clear hv hc h2
 generalize hxl : xs.length = L at *
 have HXL := hid hxl
 clear hxl
 go_enter Tryz.func209, Tryz.ntmps209
 generalize hLA : Code.loop _ = LA
 go_wp2_with fail
 have hy0 := (BoxN.new (w.alloc (.cells #[.int .i64 id, .string nm, .slice va L vc] 51)) #[.int .i64 0, .string ⟨#[]⟩, .slice none 0 0] 51).alloc (.cells #[.int .i64 id, .string nm, .slice none 0 0] 51)
 have ho0 := BoxN.new ((w.alloc (.cells #[.int .i64 id, .string nm, .slice va L vc] 51)).alloc (.cells #[.int .i64 0, .string ⟨#[]⟩, .slice none 0 0] 51)) #[.int .i64 id, .string nm, .slice none 0 0] 51
 rw [World.size_alloc] at hy0
 rw [World.size_alloc, World.size_alloc] at ho0
 have HY0 := hid hy0
 have HO0 := hid ho0
 have HB0 := hid ((((Below.refl w.heap.size w).alloc (Nat.le_refl _) (.cells #[.int .i64 id, .string nm, .slice va L vc] 51)).alloc (by simp) (.cells #[.int .i64 0, .string ⟨#[]⟩, .slice none 0 0] 51)).alloc (by simp; omega) (.cells #[.int .i64 id, .string nm, .slice none 0 0] 51))
 have hz0' : (((w.alloc (.cells #[.int .i64 id, .string nm, .slice va L vc] 51)).alloc (.cells #[.int .i64 0, .string ⟨#[]⟩, .slice none 0 0] 51)).alloc (.cells #[.int .i64 id, .string nm, .slice none 0 0] 51)).heap.size = w.heap.size + 3 := by simp
 clear hy0 ho0
 generalize ((w.alloc (.cells #[.int .i64 id, .string nm, .slice va L vc] 51)).alloc (.cells #[.int .i64 0, .string ⟨#[]⟩, .slice none 0 0] 51)).alloc (.cells #[.int .i64 id, .string nm, .slice none 0 0] 51) = W0 at *
 subst hLA
 go_loopg [15] L (fun N i wr => ∃ (q : Nat) (y : Value), i = .int .i64 (q : Int) ∧ q + N = L ∧ Hid (ToSt w W0 wr (w.heap.size + 2) W0.heap.size id nm y (xs.take q)))
 case atStart => exact ⟨0, .slice none 0 0, rfl, by omega, hid ⟨HB0.out, HO0.out, CoSt.start (Nat.le_refl _), Nat.le_refl _, fun _ _ _ => rfl⟩⟩
 case round =>
  obtain ⟨q, y, rfl, hq, HST⟩ := hrel
  have hlo := HST.out.low
  have HQL : Hid ((xs.take q).length = q) := hid (by rw [List.length_take]; have := HXL.out; omega)
  by_cases hp : 0 < gk
  ·have hqL : q < L := by omega
   have HSNq := hid (HSN.out q hqL)
   obtain ⟨L0, hL0⟩ := HST.out.own.owns
   rw [HQL.out] at hL0
   obtain ⟨ya, yc, rfl⟩ := own_slice hL0
   have HL0 := hid hL0
   have HGQ := hid (HGET.out q hqL)
   clear hL0
   generalize xs.getD q Co.z = x at *
   obtain ⟨xn, xc⟩ := x
   have hwr := HST.out.bel.size
   have hqi : (q : Int) < (L : Int) := by omega
   have s0 : wr.cell? ⟨w.heap.size + 2, 2, none⟩ = some (.slice ya q yc) := HST.out.box.cell 2 rfl
   have sf : wr.frozen? ⟨w.heap.size + 2, 2, none⟩ = false := HST.out.box.frozen 2
   go_upto_region 5 with fail
   have HST2 := hid (HST.out.later (W' := wr.drew) (by have h1 := Below.refl wr.heap.size wr; repeat' (first | (with_reducible exact Below.refl _ _) | (with_reducible assumption) | (with_reducible refine below_drewN ?_) | (with_reducible refine Below.alloc ?_ ?_ _) | (with_reducible refine Below.drew ?_) | (with_reducible refine Below.setCell ?_ ?_ _) | (with_reducible refine Below.trans ?_ (Below.mono (by with_reducible assumption) ?_)) | go_size)) HST.out.bel.size (by omega))
   have HLW := hid (HL0.out.drew)
   have HZW : Hid (wr.drew.heap.size = wr.heap.size) := hid rfl
   go_region_law (first
    | (go_simp; go_at_call 210; go_must (((with_reducible refine (HGQ.out _ HST2.out.bel).mono ?_); rintro e w6 ⟨u6, rfl, hrd6, hb6⟩; have h6 := hrd6; obtain ⟨ua, uc, hu6, -⟩ := h6; (try simp only at hu6); subst hu6; have HB6 := hid hb6; have HRD6 := hid hrd6; have hz6 : wr.heap.size ≤ w6.heap.size := Nat.le_trans (Nat.le_of_eq HZW.out.symm) hb6.size; have HST6 := hid (HST2.out.later hb6 HST2.out.bel.size (by omega)); have HL6 := hid (own_later HLW.out hb6); have s6 : w6.cell? ⟨w.heap.size + 2, 2, none⟩ = some (.slice ya q yc) := HST6.out.box.cell 2 rfl; have HST7 := hid (HST6.out.later (W' := w6.alloc (.cells #[.string xn, .slice ua xc.length uc] 55)) ((Below.refl _ _).alloc (Nat.le_refl _) _) HST6.out.bel.size (by omega)); have s7 : (w6.alloc (.cells #[.string xn, .slice ua xc.length uc] 55)).cell? ⟨w.heap.size + 2, 2, none⟩ = some (.slice ya q yc) := HST7.out.box.cell 2 rfl; have HL7 := hid (HL6.out.alloc (.cells #[.string xn, .slice ua xc.length uc] 55)); have HN7 := hid (BoxN.new w6 #[.string xn, .slice ua xc.length uc] 55); clear hrd6 hb6)))
    | ((refine step_append_form _ rfl (.tmp 19) (.tmp 23) 49 49 rfl W0.heap.size 55 55 i0 (.agg #[.string ⟨#[]⟩, .slice none 0 0]) 2 40 Tryz.underlying49 Tryz.underlying49 hi hz0 hz1 hz2 rfl (by decide) (.slice ya q yc) q _ rfl HL7.out (some ⟨w6.heap.size, 0, none⟩) 1 1 [.string xn, .slice ua xc.length uc] rfl rfl (fun _ => ⟨_, rfl, World.news_of_block HN7.out⟩) (by intro u hu; simp at hu; rcases hu with rfl | rfl <;> rfl) (by omega) (by unfold maxLen; omega) (by omega) (by simp; omega) ?_); intro p8 cap8 w8 hown8 hg8 hat8 hlt8; have hbx8 := HST7.out.box.grown hg8 (fun e => by have := HL7.out.lt _ e.symm; omega); have q1 : w8.cell? ⟨w.heap.size + 2, 2, none⟩ = some (.slice ya q yc) := hbx8.cell 2 rfl; have fq1 := hbx8.frozen 2; have HG8 := hid hg8; have HOWN8 := hid hown8; have HAT8 := hid hat8; clear hown8 hg8 hat8 hbx8))
   all_goals
    have HNEW : Hid (RdCl (w6.alloc (.cells #[.string xn, .slice ua xc.length uc] 55)) (Own (w6.alloc (.cells #[.string xn, .slice ua xc.length uc] 55)) W0.heap.size (.slice ya q yc)) (.slice ua xc.length uc) xc) := hid ((HRD6.out.keep (fun p hp => World.cell?_alloc_lt _ _ _ hp.2)).more (fun b hb => ⟨by have h1 := hb.1; rw [HZW.out] at h1; omega, by have h1 := hb.2; simp; omega, fun e => by have h1 := (HL0.out.lt _ e).2; have h2 := hb.1; rw [HZW.out] at h2; omega⟩))
    clear q1 fq1 s0 sf s6 s7
    go_wp2
    go_roundg (gk - 1)
    case rel => exact ⟨q + 1, _, by go_num, by omega, hid (by rw [HSNq.out]; exact HST7.out.push (x := ⟨xn, xc⟩) (by rw [HQL.out]) (by rw [HQL.out]; exact HL7.out) HOWN8.out HG8.out HAT8.out HNEW.out (by omega) (by omega))⟩
    case measure => omega
  ·obtain rfl : gk = 0 := by omega
   obtain rfl : q = L := by omega
   have hy2 := (show BoxN wr (w.heap.size + 1) _ _ from (HST.out.keep (w.heap.size + 1) (by omega) (by omega)).trans HY0.out)
   obtain ⟨L0, hL0⟩ := HST.out.own.owns
   rw [HQL.out] at hL0
   obtain ⟨ya, yc, rfl⟩ := own_slice hL0
   have c0 := hy2.cell 0 rfl
   have c1 := hy2.cell 1 rfl
   have c2 := hy2.cell 2 rfl
   have f0 := hy2.frozen 0
   have f1 := hy2.frozen 1
   have f2 := hy2.frozen 2
   have e0 : wr.cell? ⟨w.heap.size + 2, 0, none⟩ = some (.int .i64 id) := HST.out.box.cell 0 rfl
   have e1 : wr.cell? ⟨w.heap.size + 2, 1, none⟩ = some (.string nm) := HST.out.box.cell 1 rfl
   have e2 : wr.cell? ⟨w.heap.size + 2, 2, none⟩ = some (.slice ya q yc) := HST.out.box.cell 2 rfl
   have HTX : Hid (xs.take q = xs) := hid (List.take_of_length_le (by have := HXL.out; omega))
   clear hy2 hL0
   go_wp2
   have hwr := HST.out.bel.size
   refine bodyPost_ret (v := .agg #[.int .i64 id, .string nm, .slice ya q yc]) (by simp [results, Tryz.results209, go_sem, c0, c1, c2]) rfl ⟨_, rfl, ?_, by have := HST.out.bel; repeat' (first | (with_reducible exact Below.refl _ _) | (with_reducible assumption) | (with_reducible refine below_drewN ?_) | (with_reducible refine Below.alloc ?_ ?_ _) | (with_reducible refine Below.drew ?_) | (with_reducible refine Below.setCell ?_ ?_ _) | (with_reducible refine Below.trans ?_ (Below.mono (by with_reducible assumption) ?_)) | go_size)⟩
   have hown := HST.out.own
   rw [HTX.out] at hown
   exact (((hown.setCell (p := ⟨w.heap.size + 1, 0, none⟩) (by show w.heap.size + 1 < W0.heap.size; omega) _).setCell (p := ⟨w.heap.size + 1, 1, none⟩) (by show w.heap.size + 1 < W0.heap.size; omega) _).setCell (p := ⟨w.heap.size + 1, 2, none⟩) (by show w.heap.size + 1 < W0.heap.size; omega) _).lower (by omega)
end Go.Proofs.YtaajpliifdlokaaGreatDoor

namespace Go.Proofs.YtaajpliifdlokaaGreatDoor
open Go.RowKit
def FindT (w : World) (t : Ta) (e : Ending) (w' : World) : Prop :=
  ∃ u, e = .returned (.tuple #[.agg #[.int .i64 t.id, .string t.name, u], .bool true]) ∧ RdCo w' (News w w') u t.cols ∧ Below w.heap.size w w'
set_option maxRecDepth 100000 in
set_option maxHeartbeats 2000000 in
theorem table_FindT (v : Value) (ts : List Ta) (B i : Nat) (w : World) (hi : i < ts.length) (hu : ∀ j, j < i → (ts.getD j Ta.z).id ≠ (ts.getD i Ta.z).id) (hl : ts.length ≤ 1048576) (hv : RdTa w (· < B) v ts) (hB : B ≤ w.heap.size)
  (hxl : (ts.getD i Ta.z).cols.length ≤ 1048576) (hc : ∀ x ∈ (ts.getD i Ta.z).cols, x.cells.length ≤ 1048576) :
  Calls Tryz.prog 162 #[v, .int .i64 (ts.getD i Ta.z).id] w (FindT w (ts.getD i Ta.z)) := by
 have HFI := hid (fun W (hW : Below w.heap.size w W) => table_find v ts B i W hi hu hl (hv.keep fun p (hp : p.block < B) => hW.cell (p := p) (by omega)) (by have := hW.size; omega))
 obtain ⟨tv, ⟨a, c, rfl, hcc, hm, hrd⟩, hco⟩ := hv
 obtain ⟨b, o, rfl, hb, hcell⟩ := hrd (by omega)
 have hbw : b < w.heap.size := by have : b < B := hb; omega
 have k0 := hcell i hi 0 (by omega)
 have k1 := hcell i hi 1 (by omega)
 have k2 := hcell i hi 2 (by omega)
 simp only [taF, three, Nat.add_zero] at k0 k1 k2
 have hcx := hco i hi
 obtain ⟨ca, ck, hcv⟩ : ∃ a c, tv i = .slice a (ts.getD i Ta.z).cols.length c := by
  obtain ⟨cv, ⟨a, c, e, -⟩, -⟩ := hcx
  exact ⟨a, c, e⟩
 rw [hcv] at k2 hcx
 have HCX := hid hcx
 have HC := hid hc
 have HZ := hid (BoxN.new w #[.int .i64 0, .string ⟨#[]⟩, .slice none 0 0] 51)
 have HB0 := hid ((Below.refl w.heap.size w).alloc (Nat.le_refl _) (.cells #[.int .i64 0, .string ⟨#[]⟩, .slice none 0 0] 51))
 unfold FindT
 clear hcell hrd hco hcv hcx hu hc
 generalize ts.getD i Ta.z = t at *
 obtain ⟨id, nm, xs⟩ := t
 simp only at k0 k1 k2 HFI HCX HC hxl ⊢
 obtain ⟨L, hL⟩ : ∃ L, L = xs.length := ⟨_, rfl⟩
 rw [← hL] at k2 HCX hxl
 have HL := hid hL.symm
 clear hL
 have hii : (i : Int) < (ts.length : Int) := by omega
 have hi0 : ¬ (i : Int) < 0 := by omega
 generalize ts.length = M at *
 go_enter Tryz.func162, Tryz.ntmps162
 go_wp2_with fail
 with_reducible refine (HFI.out _ HB0.out).mono ?_
 generalize w.alloc (.cells #[.int .i64 0, .string ⟨#[]⟩, .slice none 0 0] 51) = W0 at *
 have hw0 := HB0.out.size
 rintro e w1 ⟨rfl, hb1⟩
 have HB1 := hid (HB0.out.trans (hb1.mono hw0))
 have HZ1 := hid (HZ.out.below hb1 HZ.out.lt)
 have m0 := (HB1.out.cell (p := ⟨b, o + i * 3, none⟩) hbw).trans k0
 have m1 := (HB1.out.cell (p := ⟨b, o + i * 3 + 1, none⟩) hbw).trans k1
 have m2 := (HB1.out.cell (p := ⟨b, o + i * 3 + 2, none⟩) hbw).trans k2
 have hsx := (Below.refl w1.heap.size w1).alloc (Nat.le_refl _) (.cells #[.int .i64 id, .string nm, .slice ca L ck] 51)
 have hbx := BoxN.new w1 #[.int .i64 id, .string nm, .slice ca L ck] 51
 have HB2 := hid (HB1.out.trans (hsx.mono HB1.out.size))
 have HZ2 := hid (HZ1.out.below hsx HZ1.out.lt)
 have hw1 := HB1.out.size
 have HWI := hid (table_with id nm xs w1.heap.size (.slice ca L ck) B (w1.alloc (.cells #[.int .i64 id, .string nm, .slice ca L ck] 51)) (hbx.cell 2 rfl) (HCX.out.keep fun p (hp : p.block < B) => HB2.out.cell (p := p) (by omega)) (Nat.le_trans hB HB2.out.size) (by rw [HL.out]; exact hxl) HC.out)
 rw [HL.out] at HWI
 have x0 := hbx.cell 0 rfl
 have x1 := hbx.cell 1 rfl
 have x2 := hbx.cell 2 rfl
 clear hb1 k0 k1 k2 hbx HFI
 go_wp2_with fail
 clear x0 x1 x2 m0 m1 m2
 with_reducible refine HWI.out.mono ?_
 rintro e w3 ⟨u, rfl, hco, hb3⟩
 have hrd := hco.read
 obtain ⟨ua, uc, rfl⟩ : ∃ a c, u = .slice a xs.length c := by
  obtain ⟨cv, ⟨a, c, e, -⟩, -⟩ := hrd
  exact ⟨a, c, e⟩
 rw [HL.out] at hrd ⊢
 have hz2 : (w1.alloc (.cells #[.int .i64 id, .string nm, .slice ca L ck] 51)).heap.size = w1.heap.size + 1 := by simp
 have HRD := hid hrd
 have HB3 := hid (HB2.out.trans (hb3.mono HB2.out.size))
 have hz3 := HZ2.out.below hb3 HZ2.out.lt
 have hzl := HZ1.out.lt
 have f0 := hz3.frozen 0
 have f1 := hz3.frozen 1
 have f2 := hz3.frozen 2
 have c0 := hz3.cell 0 rfl
 have c1 := hz3.cell 1 rfl
 have c2 := hz3.cell 2 rfl
 clear hco hrd hb3 hz3 HWI
 go_wp2
 refine bodyPost_ret (v := .tuple #[.agg #[.int .i64 id, .string nm, .slice ua L uc], .bool true]) (by simp [results, Tryz.results162, go_sem, c0, c1, c2]) rfl ⟨_, rfl, (HRD.out.keep fun p hp => ?_).more fun b hb => ?_, ((HB3.out.setCell (p := ⟨w.heap.size, 0, none⟩) (Nat.le_refl _) _).setCell (p := ⟨w.heap.size, 1, none⟩) (Nat.le_refl _) _).setCell (p := ⟨w.heap.size, 2, none⟩) (Nat.le_refl _) _⟩
 ·have hp1 := hp.1
  rw [World.cell?_setCell_other _ _ _ _ (by intro e; subst e; simp at hp1; omega), World.cell?_setCell_other _ _ _ _ (by intro e; subst e; simp at hp1; omega), World.cell?_setCell_other _ _ _ _ (by intro e; subst e; simp at hp1; omega)]
 ·have h1 := hb.1
  have h2 := hb.2
  exact ⟨by omega, by simp; omega⟩
end Go.Proofs.YtaajpliifdlokaaGreatDoor
