/- Contracts of copies.Common, copies.Score and the reference's Score at any tables. PRINTED by wip/tools/gen_rwi.py. Contract of the reference's Top (chapter 36) at any tables: exactly which matches, in which order. PRINTED by wip/tools/gen_rws.py. -/
import Derived.Lib.MinMax
import Derived.Test.YthblaeleogdfpaaGreatDoorCTobk
import Derived.Test.YthblaeleogdfpaaGreatDoorCTobm
import Derived.Test.YthblaeleogdfpaaGreatDoorCToaq
import Derived.Test.YthblaeleogdfpaaGreatDoorCTobd
import Derived.Deep.RegionHeld3
import Derived.Test.YthblaeleogdfpaaGreatDoorCTobi
import Derived.Test.YthblaeleogdfpaaGreatDoorCTobl
set_option linter.unusedVariables false
set_option linter.unusedSimpArgs false
namespace Go.Proofs.YthblaeleogdfpaaGreatDoor
open Go.RowKit
def scoN (ta tb : Ta) : Nat := if tabB ta = true ∧ tabB tb = true then commonL ta.cols tb.cols / Nat.gcd (commonL ta.cols tb.cols) (denS ta.cols tb.cols) else 0
def scoD (ta tb : Ta) : Nat := if tabB ta = true ∧ tabB tb = true then denS ta.cols tb.cols / Nat.gcd (commonL ta.cols tb.cols) (denS ta.cols tb.cols) else 0
theorem dig_zero : Fr.dig 0 = [] := by unfold Fr.dig; rfl
theorem newF_zero (B : Nat) (w : World) : Fr.NewF B w none 0 none 0 0 0 := by
 unfold Fr.NewF
 rw [dig_zero]
 exact ⟨⟨none, 0, rfl, Nat.le_refl _, by simp [maxLen], by simp [Fr.Digs], fun h => absurd h (by simp)⟩, ⟨none, 0, rfl, Nat.le_refl _, by simp [maxLen], by simp [Fr.Digs], fun h => absurd h (by simp)⟩, (fun R hR a n c h => by cases h), (fun R hR a n c h => by cases h)⟩
set_option maxRecDepth 100000 in
set_option maxHeartbeats 4000000 in
theorem ref36_Score (ta tb : Ta) (v u : Value) (B : Nat) (w : World) (h1 : SzT ta) (h2 : SzT tb) (hv : RdCo w (· < B) v ta.cols) (hu : RdCo w (· < B) u tb.cols) (hB : B ≤ w.heap.size) (hT : Tabs w) :
  Calls Tryz.prog 19 #[.agg #[.int .i64 ta.id, .string ta.name, v], .agg #[.int .i64 tb.id, .string tb.name, u]] w (Fr.GivesFE w false (scoN ta tb) (scoD ta tb) (.int .i64 (errB ta tb))) := by
 have HCO := hid (fun W (hW : Below w.heap.size w W) => ref36_Common ta tb v u B W h1 h2 (hv.keep fun p (hp : p.block < B) => hW.cell (p := p) (by omega)) (hu.keep fun p (hp : p.block < B) => hW.cell (p := p) (by omega)) (Nat.le_trans hB hW.size) (hT.below hW))
 by_cases hboth : tabB ta = true ∧ tabB tb = true
 ·rw [show scoN ta tb = _ from if_pos hboth, show scoD ta tb = _ from if_pos hboth, show errB ta tb = 0 from if_pos hboth]
  rw [show comB ta tb = _ from if_pos hboth, show errB ta tb = 0 from if_pos hboth] at HCO
  have HR1 := hid (fun W (hW : Below w.heap.size w W) => ref03_Rows ta.id ta.name v ta.cols B W (hv.keep fun p (hp : p.block < B) => hW.cell (p := p) (by omega)) (Nat.le_trans hB hW.size))
  have HR2 := hid (fun W (hW : Below w.heap.size w W) => ref03_Rows tb.id tb.name u tb.cols B W (hu.keep fun p (hp : p.block < B) => hW.cell (p := p) (by omega)) (Nat.le_trans hB hW.size))
  have hra : rowsC ta.cols ≤ 4096 := rows_le (tabV_ofB hboth.1)
  have hrb : rowsC tb.cols ≤ 4096 := rows_le (tabV_ofB hboth.2)
  have hcl : commonL ta.cols tb.cols ≤ rowsC ta.cols := commonL_le_rows _ _
  have HDE : Hid (denS ta.cols tb.cols = max (max (rowsC ta.cols) (rowsC tb.cols)) 1) := hid rfl
  have HPA := hid (fun n d W (h1 : n < 9223372036854775808) (h2 : 0 < d) (h3 : d < 9223372036854775808) => Fr.ref_Part n d W h1 h2 h3)
  clear hv hu hT h1 h2 hboth
  generalize denS ta.cols tb.cols = D at *
  generalize commonL ta.cols tb.cols = C at *
  generalize rowsC ta.cols = ra at *
  generalize rowsC tb.cols = rb at *
  generalize ta.id = i1 at *
  generalize tb.id = i2 at *
  generalize ta.name = n1 at *
  generalize tb.name = n2 at *
  have HB0 := hid ((((Below.refl w.heap.size w).alloc (Nat.le_refl _) (.cells #[.int .i64 i1, .string n1, v] 24)).alloc (by simp) (.cells #[.int .i64 i2, .string n2, u] 24)).alloc (by simp; omega) (.cells #[.bool false, .slice none 0 0, .bool false, .slice none 0 0] 49))
  have HX1 := hid (((BoxN.new w #[.int .i64 i1, .string n1, v] 24).alloc (.cells #[.int .i64 i2, .string n2, u] 24)).alloc (.cells #[.bool false, .slice none 0 0, .bool false, .slice none 0 0] 49))
  have hx2 := (BoxN.new (w.alloc (.cells #[.int .i64 i1, .string n1, v] 24)) #[.int .i64 i2, .string n2, u] 24).alloc (.cells #[.bool false, .slice none 0 0, .bool false, .slice none 0 0] 49)
  rw [World.size_alloc] at hx2
  have HX2 := hid hx2
  have hx3 := BoxN.new ((w.alloc (.cells #[.int .i64 i1, .string n1, v] 24)).alloc (.cells #[.int .i64 i2, .string n2, u] 24)) #[.bool false, .slice none 0 0, .bool false, .slice none 0 0] 49
  rw [World.size_alloc, World.size_alloc] at hx3
  have HX3 := hid hx3
  have hz : (((w.alloc (.cells #[.int .i64 i1, .string n1, v] 24)).alloc (.cells #[.int .i64 i2, .string n2, u] 24)).alloc (.cells #[.bool false, .slice none 0 0, .bool false, .slice none 0 0] 49)).heap.size = w.heap.size + 3 := by simp
  have c0 := HX1.out.cell 0 rfl
  have c1 := HX1.out.cell 1 rfl
  have c2 := HX1.out.cell 2 rfl
  have d0 := HX2.out.cell 0 rfl
  have d1 := HX2.out.cell 1 rfl
  have d2 := HX2.out.cell 2 rfl
  clear hx2 hx3
  go_enter Tryz.func19, Tryz.ntmps19
  go_wp2_with fail
  generalize ((w.alloc (.cells #[.int .i64 i1, .string n1, v] 24)).alloc (.cells #[.int .i64 i2, .string n2, u] 24)).alloc (.cells #[.bool false, .slice none 0 0, .bool false, .slice none 0 0] 49) = W0 at *
  with_reducible refine (HCO.out _ HB0.out).mono ?_
  clear c0 c1 c2 d0 d1 d2
  rintro e w1 ⟨rfl, hb1⟩
  have HB1 := hid (HB0.out.trans (hb1.mono HB0.out.size))
  have HX11 := hid (HX1.out.below hb1 HX1.out.lt)
  have HX21 := hid (HX2.out.below hb1 HX2.out.lt)
  have HX31 := hid (HX3.out.below hb1 HX3.out.lt)
  have hz1 := hb1.size
  clear hb1
  have HLT := hid (fun W (hW : Below w1.heap.size w1 W) => HB1.out.trans (hW.mono HB1.out.size))
  have HC1 := hid (fun p : LaterOf w1 => later_call p (HR1.out p.W (HLT.out p.W p.hb)))
  have HC2 := hid (fun p : LaterOf w1 => later_call p (HR2.out p.W (HLT.out p.W p.hb)))
  have g0 := fun p : LaterOf w1 => p.cell (v := .int .i64 i1) (HX11.out.cell 0 rfl)
  have g1 := fun p : LaterOf w1 => p.cell (v := .string n1) (HX11.out.cell 1 rfl)
  have g2 := fun p : LaterOf w1 => p.cell (v := v) (HX11.out.cell 2 rfl)
  have g3 := fun p : LaterOf w1 => p.cell (v := .int .i64 i2) (HX21.out.cell 0 rfl)
  have g4 := fun p : LaterOf w1 => p.cell (v := .string n2) (HX21.out.cell 1 rfl)
  have g5 := fun p : LaterOf w1 => p.cell (v := u) (HX21.out.cell 2 rfl)
  go_upto_region 4 with fail
  refine wp_region_later (by kernel_rfl) (by kernel_rfl) ?_
  repeat (first | go_big_quiet_step ((go_at_call 57; first | with_reducible exact HC1.out _ | with_reducible exact HC2.out _)) | quiet_step ((go_at_call 57; first | with_reducible exact HC1.out _ | with_reducible exact HC2.out _)))
  refine wpQuiet_nil ?_
  intro _ hw'
  obtain ⟨p5, rfl⟩ := hw'
  have HB5 := hid (HLT.out p5.W p5.hb)
  have HX35 := hid (HX31.out.below p5.hb HX31.out.lt)
  have hz5 := p5.hb.size
  generalize p5.W = w5 at *
  clear g0 g1 g2 g3 g4 g5 HC1 HC2
  rw [show max (ra : Int) (rb : Int) = ((max ra rb : Nat) : Int) from by omega]
  have HMD : Hid (max (max ra rb) 1 = D) := hid HDE.out.symm
  have hMl : max ra rb ≤ 4096 := by omega
  have hCM : C ≤ max ra rb := by omega
  clear HDE HR1 HR2
  generalize max ra rb = M at *
  by_cases hM : M = 0
  ·obtain rfl : C = 0 := by omega
   obtain rfl : D = 1 := by rw [← HMD.out, hM]; rfl
   have hd : ((M : Int) = 0) := by omega
   have hd2 : decide ((M : Int) = 0) = true := decide_eq_true hd
   have hd3 : ((M : Int) == 0) = true := by simpa using hd
   clear hM hd
   go_wp2_with fail
   with_reducible refine (Fr.ref_Zero _).mono ?_
   rintro e w6 ⟨x4, y4, x5, y5, rfl, hN, hb6⟩
   have HN := hid hN
   have HB6 := hid (HB5.out.trans (hb6.mono HB5.out.size))
   have hx6 := HX35.out.below hb6 HX35.out.lt
   have m0 := hx6.cell 0 rfl
   have m1 := hx6.cell 1 rfl
   have m2 := hx6.cell 2 rfl
   have m3 := hx6.cell 3 rfl
   have f0 := hx6.frozen 0
   have f1 := hx6.frozen 1
   have f2 := hx6.frozen 2
   have f3 := hx6.frozen 3
   have hrl := hx6.lt
   have hz6 := hb6.size
   have hrl5 := HX35.out.lt
   clear hb6 hN hx6
   go_wp2
   refine bodyPost_ret (by simp [results, Tryz.results19, go_sem, m0, m1, m2, m3]; rfl) rfl ?_
   refine ⟨x4, y4, x5, y5, by first | rfl | simp, ((((HN.out.setCell hrl5).setCell hrl5).setCell hrl5).setCell hrl5).mono (by omega), ?_⟩
   exact (((HB6.out.setCell (p := ⟨w.heap.size + 2, 0, none⟩) (by show w.heap.size ≤ w.heap.size + 2; omega) _).setCell (p := ⟨w.heap.size + 2, 1, none⟩) (by show w.heap.size ≤ w.heap.size + 2; omega) _).setCell (p := ⟨w.heap.size + 2, 2, none⟩) (by show w.heap.size ≤ w.heap.size + 2; omega) _).setCell (p := ⟨w.heap.size + 2, 3, none⟩) (by show w.heap.size ≤ w.heap.size + 2; omega) _
  ·have hd2 : decide ((M : Int) = 0) = false := decide_eq_false (by omega)
   have hd3 : ((M : Int) == 0) = false := by simp; omega
   obtain rfl : D = M := by rw [← HMD.out]; omega
   have HPB := hid (fun W => HPA.out C D W (by omega) (by omega) (by omega))
   clear hM
   go_wp2_with fail
   with_reducible refine (HPB.out _).mono ?_
   rintro e w6 ⟨x4, y4, x5, y5, rfl, hN, hb6⟩
   have HN := hid hN
   have HB6 := hid (HB5.out.trans (hb6.mono HB5.out.size))
   have hx6 := HX35.out.below hb6 HX35.out.lt
   have m0 := hx6.cell 0 rfl
   have m1 := hx6.cell 1 rfl
   have m2 := hx6.cell 2 rfl
   have m3 := hx6.cell 3 rfl
   have f0 := hx6.frozen 0
   have f1 := hx6.frozen 1
   have f2 := hx6.frozen 2
   have f3 := hx6.frozen 3
   have hrl := hx6.lt
   have hz6 := hb6.size
   have hrl5 := HX35.out.lt
   clear hb6 hN hx6
   go_wp2
   refine bodyPost_ret (by simp [results, Tryz.results19, go_sem, m0, m1, m2, m3]; rfl) rfl ?_
   refine ⟨x4, y4, x5, y5, by first | rfl | simp, ((((HN.out.setCell hrl5).setCell hrl5).setCell hrl5).setCell hrl5).mono (by omega), ?_⟩
   exact (((HB6.out.setCell (p := ⟨w.heap.size + 2, 0, none⟩) (by show w.heap.size ≤ w.heap.size + 2; omega) _).setCell (p := ⟨w.heap.size + 2, 1, none⟩) (by show w.heap.size ≤ w.heap.size + 2; omega) _).setCell (p := ⟨w.heap.size + 2, 2, none⟩) (by show w.heap.size ≤ w.heap.size + 2; omega) _).setCell (p := ⟨w.heap.size + 2, 3, none⟩) (by show w.heap.size ≤ w.heap.size + 2; omega) _
 ·rw [show scoN ta tb = 0 from if_neg hboth, show scoD ta tb = 0 from if_neg hboth, show errB ta tb = 1 from if_neg hboth]
  rw [show comB ta tb = 0 from if_neg hboth, show errB ta tb = 1 from if_neg hboth] at HCO
  clear hv hu hT h1 h2 hboth
  generalize ta.id = i1 at *
  generalize tb.id = i2 at *
  generalize ta.name = n1 at *
  generalize tb.name = n2 at *
  have HB0 := hid ((((Below.refl w.heap.size w).alloc (Nat.le_refl _) (.cells #[.int .i64 i1, .string n1, v] 24)).alloc (by simp) (.cells #[.int .i64 i2, .string n2, u] 24)).alloc (by simp; omega) (.cells #[.bool false, .slice none 0 0, .bool false, .slice none 0 0] 49))
  have HX1 := hid (((BoxN.new w #[.int .i64 i1, .string n1, v] 24).alloc (.cells #[.int .i64 i2, .string n2, u] 24)).alloc (.cells #[.bool false, .slice none 0 0, .bool false, .slice none 0 0] 49))
  have hx2 := (BoxN.new (w.alloc (.cells #[.int .i64 i1, .string n1, v] 24)) #[.int .i64 i2, .string n2, u] 24).alloc (.cells #[.bool false, .slice none 0 0, .bool false, .slice none 0 0] 49)
  rw [World.size_alloc] at hx2
  have HX2 := hid hx2
  have hx3 := BoxN.new ((w.alloc (.cells #[.int .i64 i1, .string n1, v] 24)).alloc (.cells #[.int .i64 i2, .string n2, u] 24)) #[.bool false, .slice none 0 0, .bool false, .slice none 0 0] 49
  rw [World.size_alloc, World.size_alloc] at hx3
  have HX3 := hid hx3
  have hz : (((w.alloc (.cells #[.int .i64 i1, .string n1, v] 24)).alloc (.cells #[.int .i64 i2, .string n2, u] 24)).alloc (.cells #[.bool false, .slice none 0 0, .bool false, .slice none 0 0] 49)).heap.size = w.heap.size + 3 := by simp
  have c0 := HX1.out.cell 0 rfl
  have c1 := HX1.out.cell 1 rfl
  have c2 := HX1.out.cell 2 rfl
  have d0 := HX2.out.cell 0 rfl
  have d1 := HX2.out.cell 1 rfl
  have d2 := HX2.out.cell 2 rfl
  clear hx2 hx3
  go_enter Tryz.func19, Tryz.ntmps19
  go_wp2_with fail
  generalize ((w.alloc (.cells #[.int .i64 i1, .string n1, v] 24)).alloc (.cells #[.int .i64 i2, .string n2, u] 24)).alloc (.cells #[.bool false, .slice none 0 0, .bool false, .slice none 0 0] 49) = W0 at *
  with_reducible refine (HCO.out _ HB0.out).mono ?_
  clear c0 c1 c2 d0 d1 d2
  rintro e w1 ⟨rfl, hb1⟩
  have HB1 := hid (HB0.out.trans (hb1.mono HB0.out.size))
  have HX11 := hid (HX1.out.below hb1 HX1.out.lt)
  have HX21 := hid (HX2.out.below hb1 HX2.out.lt)
  have HX31 := hid (HX3.out.below hb1 HX3.out.lt)
  have hz1 := hb1.size
  clear hb1
  have m0 := HX31.out.cell 0 rfl
  have m1 := HX31.out.cell 1 rfl
  have m2 := HX31.out.cell 2 rfl
  have m3 := HX31.out.cell 3 rfl
  have f0 := HX31.out.frozen 0
  have f1 := HX31.out.frozen 1
  have f2 := HX31.out.frozen 2
  have f3 := HX31.out.frozen 3
  have hrl := HX31.out.lt
  go_wp2
  refine bodyPost_ret (by simp [results, Tryz.results19, go_sem, m0, m1, m2, m3]; rfl) rfl ?_
  refine ⟨none, 0, none, 0, by rw [dig_zero]; rfl, newF_zero _ _, ?_⟩
  exact ((((HB1.out.setCell (p := ⟨w.heap.size + 2, 0, none⟩) (by show w.heap.size ≤ w.heap.size + 2; omega) _).setCell (p := ⟨w.heap.size + 2, 1, none⟩) (by show w.heap.size ≤ w.heap.size + 2; omega) _).setCell (p := ⟨w.heap.size + 2, 2, none⟩) (by show w.heap.size ≤ w.heap.size + 2; omega) _).setCell (p := ⟨w.heap.size + 2, 3, none⟩) (by show w.heap.size ≤ w.heap.size + 2; omega) _)
end Go.Proofs.YthblaeleogdfpaaGreatDoor

namespace Go.Proofs.YthblaeleogdfpaaGreatDoor
open Go.RowKit
structure TopSr (w W : World) (v : Value) (ds : List Mq) (ts : List Ta) (qc : List Co) (q : Nat) : Prop where
  bel : Below w.heap.size w W
  row : W.ownsRow w.heap.size 135 6 v ds.length (FL ds)
  good : ∀ x ∈ ds, MtOk W ts qc x.1
  ids : (ds.map (fun x => x.1.id)).Perm (idsP (ts.take q) qc)
  srt : (ds.map (fun x => x.1.id)).Pairwise (befS ts qc)
  start : ds = [] → v = .slice none 0 0
theorem TopSr.later {w W W' : World} {v : Value} {ds : List Mq} {ts : List Ta} {qc : List Co} {q : Nat} (h : TopSr w W v ds ts qc q) (hb : Below W.heap.size W W') : TopSr w W' v ds ts qc q :=
 ⟨h.bel.trans (hb.mono h.bel.size), own_later h.row hb, fun x hx => (h.good x hx).later hb, h.ids, h.srt, h.start⟩
theorem TopSr.skip {w W : World} {v : Value} {ds : List Mq} {ts : List Ta} {qc : List Co} {q : Nat} (h : TopSr w W v ds ts qc q) (hi : idsP (ts.take (q + 1)) qc = idsP (ts.take q) qc) : TopSr w W v ds ts qc (q + 1) := ⟨h.bel, h.row, h.good, by rw [hi]; exact h.ids, h.srt, h.start⟩
theorem map_getD_id (ds : List Mq) {j : Nat} (hj : j < ds.length) : (ds.map (fun x => x.1.id)).getD j 0 = (ds.getD j default).1.id := by simp [List.getD, hj]
theorem TopSr.put {w W W' : World} {v : Value} {ds : List Mq} {ts : List Ta} {qc : List Co} {q : Nat} (h : TopSr w W v ds ts qc q) {x : Mq} (hx : MtOk W ts qc x.1) (hi : idsP (ts.take (q + 1)) qc = idsP (ts.take q) qc ++ [x.1.id]) (hup : ∀ i ∈ idsP (ts.take q) qc, i < x.1.id)
  {k p cap : Nat} (hk : k ≤ ds.length) (hown : W'.ownsRow W.heap.size 135 6 (.slice (some ⟨p, 0, none⟩) (ds.length + 1) cap) (ds.length + 1) (FL (putI ds k x)))
  (h1 : ∀ j, k ≤ j → j < ds.length → ltM (ds.getD j default).1 x.1) (h2 : 0 < k → ¬ ltM (ds.getD (k - 1) default).1 x.1) (hb : Below W.heap.size W W') : TopSr w W' (.slice (some ⟨p, 0, none⟩) (ds.length + 1) cap) (putI ds k x) ts qc (q + 1) := by
 have hl := putI_len hk x
 have hle : ∀ y ∈ ds, (ltM y.1 x.1 ↔ ¬ leS ts qc x.1.id y.1.id) := fun y hy => by
  have gy := h.good y hy
  unfold ltM leS
  rw [← hx.fp, ← hx.fq, ← gy.fp, ← gy.fq]
  omega
 refine ⟨h.bel.trans (hb.mono h.bel.size), ?_, ?_, ?_, ?_, fun e => ?_⟩
 ·rw [hl]
  exact own_base hown h.bel.size
 ·intro y hy
  rcases List.mem_append.1 ((putI_perm ds k x).mem_iff.1 hy) with h3 | h3
  ·exact (h.good y h3).later hb
  ·rw [List.mem_singleton.1 h3]; exact hx.later hb
 ·rw [hi, putI_map]
  exact (putI_perm _ _ _).trans (h.ids.append_right _)
 ·rw [putI_map]
  have hml : (ds.map (fun x => x.1.id)).length = ds.length := by rw [List.length_map]
  refine putI_bef h.srt (by omega) (fun a ha => hup a (h.ids.mem_iff.1 ha)) (fun j h3 h4 => ?_) (fun h3 => ?_)
  ·rw [hml] at h4
   rw [map_getD_id ds h4]
   exact (hle _ (getD_mem h4 default)).1 (h1 j h3 h4)
  ·rw [map_getD_id ds (by omega)]
   have h4 := h2 h3
   rw [hle _ (getD_mem (by omega) default)] at h4
   exact Classical.not_not.1 h4
 ·have := congrArg List.length e
  rw [hl] at this
  simp at this
set_option maxRecDepth 100000 in
set_option maxHeartbeats 8000000 in
theorem ref36_TopX (ts : List Ta) (v qv : Value) (qt : Ta) (k : Int) (B : Nat) (w : World) (hs : SzL ts) (hsq : SzT qt) (hv : RdTa w (· < B) v ts) (hqv : RdCo w (· < B) qv qt.cols) (hB : B ≤ w.heap.size) (hT : Tabs w)  :
  Calls Tryz.prog 42 #[v, .agg #[.int .i64 qt.id, .string qt.name, qv], .int .i64 k] w (TopX w ts qt k) := by
 have HVL := hid (fun W (hW : Below w.heap.size w W) => ref_ValidListB v ts B W hs (hv.keep fun p (hp : p.block < B) => hW.cell (p := p) (by omega)) (Nat.le_trans hB hW.size) (hT.below hW))
 have HVQ := hid (fun W (hW : Below w.heap.size w W) => ref_ValidB qt qv B W hsq (hqv.keep fun p (hp : p.block < B) => hW.cell (p := p) (by omega)) (Nat.le_trans hB hW.size) (hT.below hW))
 have HTE := hid (show topE ts qt k = if k < 0 ∨ 1024 < k then 2 else if listB ts = true ∧ tabB qt = true then 0 else 1 from rfl)
 have HER := hid (fun E W (hE : topE ts qt k = E) (h0 : E ≠ 0) (hb : Below w.heap.size w W) => topX_err hE h0 hb)
 have HLV := hid (fun (h : listB ts = true) => listV_ofB h)
 have HQV := hid (fun (h : tabB qt = true) => tabV_ofB h)
 obtain ⟨tv, ⟨a, c, rfl, hc, hm, hr⟩, hkid⟩ := hv
 have HR := hid hr
 have HSC := hid (fun (hl : ListV ts) (hq : TabV qt) j (hj : j < ts.length) W (hW : Below w.heap.size w W) => (by
  have h := ref36_Score qt (ts.getD j Ta.z) qv (tv j) B W hsq (hs _ (getD_mem hj Ta.z)) (hqv.keep fun p (hp : p.block < B) => hW.cell (p := p) (by omega)) ((hkid j hj).keep fun p (hp : p.block < B) => hW.cell (p := p) (by omega)) (Nat.le_trans hB hW.size) (hT.below hW)
  have hb : tabB qt = true ∧ tabB (ts.getD j Ta.z) = true := ⟨tabB_of hq, tabB_of (hl.2.1 _ (getD_mem hj Ta.z))⟩
  rw [show scoN qt (ts.getD j Ta.z) = tpP qt.cols (ts.getD j Ta.z) from if_pos hb, show scoD qt (ts.getD j Ta.z) = tpQ qt.cols (ts.getD j Ta.z) from if_pos hb, show errB qt (ts.getD j Ta.z) = 0 from if_pos hb] at h
  exact h : Calls Tryz.prog 19 #[.agg #[.int .i64 qt.id, .string qt.name, qv], .agg #[.int .i64 (ts.getD j Ta.z).id, .string (ts.getD j Ta.z).name, tv j]] W (Fr.GivesFE W false (tpP qt.cols (ts.getD j Ta.z)) (tpQ qt.cols (ts.getD j Ta.z)) (.int .i64 0))))
 have HAL := hid (fun (hl : ListV ts) (hq : TabV qt) j (hj : j < ts.length) W (hW : Below w.heap.size w W) => ref36_Align qt.id (ts.getD j Ta.z).id qt.name (ts.getD j Ta.z).name qv (tv j) qt.cols (ts.getD j Ta.z).cols B W (hqv.keep fun p (hp : p.block < B) => hW.cell (p := p) (by omega)) ((hkid j hj).keep fun p (hp : p.block < B) => hW.cell (p := p) (by omega)) (Nat.le_trans hB hW.size) (Nat.le_trans hq.2.2.2.1 (by omega)) (Nat.le_trans (hl.2.1 _ (getD_mem hj Ta.z)).2.2.2.1 (by omega)))
 have HSM := hid (fun (hl : ListV ts) (hq : TabV qt) j (hj : j < ts.length) => (by
  have hd0 : 0 < denS qt.cols (ts.getD j Ta.z).cols := by unfold denS; omega
  have hra : rowsC qt.cols ≤ 4096 := rows_le hq
  have hrb : rowsC (ts.getD j Ta.z).cols ≤ 4096 := rows_le (hl.2.1 _ (getD_mem hj Ta.z))
  have hcl := commonL_le_rows qt.cols (ts.getD j Ta.z).cols
  exact Fr.sml_of hd0 (by omega) (by unfold denS; omega) : Fr.Sml (tpP qt.cols (ts.getD j Ta.z)) (tpQ qt.cols (ts.getD j Ta.z))))
 have HKV := hid (fun j (hj : j < ts.length) => (by
  obtain ⟨cv, ⟨ka, kc, e, -⟩, -⟩ := hkid j hj
  exact ⟨ka, _, kc, e⟩ : ∃ ka kn kc, tv j = .slice ka kn kc))
 have HTI := hid (fun (hl : ListV ts) j (hj : j < ts.length) => tabI_at hl.2.2 hj)
 have HIS := hid (fun j (hj : j < ts.length) => idsP_succ (qc := qt.cols) hj)
 have HAP := hid (fun j => aligns_of_pos (xs := qt.cols) (t := ts.getD j Ta.z))
 have HUP2 := hid (fun (hl : ListV ts) q (hq : q < ts.length) (i : Int) (hi : i ∈ idsP (ts.take q) qt.cols) => (by
  obtain ⟨j, h1, h2, rfl⟩ := idsP_mem hi
  exact ids_up hl.2.2 h1 hq : i < (ts.getD q Ta.z).id))
 have HZE : Hid (∀ W, Calls Tryz.prog 35 #[] W (Fr.GivesF W false 0 1)) := hid (fun W => Fr.ref_Zero W)
 have HS01 : Hid (Fr.Sml 0 1) := hid (by have := Fr.sml_of (c := 0) (d := 1) (by omega) (by omega) (by omega); simpa using this)
 have HIE : Hid (idsP (ts.take ts.length) qt.cols = idsP ts qt.cols) := hid (by rw [List.take_length])
 obtain ⟨i0, hi, hz0, hz1, hz2⟩ := info_parts info_match
 have HTX : Hid (∀ (W : World) (a : Option Addr) (n c : Nat) (I : List Int), Below w.heap.size w W → RdM W ts qt.cols (.slice a n c) I → topE ts qt k = 0 → ∀ J : List Int, J.Perm (idsP ts qt.cols) → J.Pairwise (befS ts qt.cols) → I = J.take k.toNat → TopX w ts qt k (.returned (.tuple #[.slice a n c, .int .i64 0])) W) := hid (fun W a n c I h1 h2 h3 J h4 h5 h6 => ⟨a, n, c, I, by rw [h3], h1, h2, fun _ => ⟨J, h4, h5, h6⟩, fun h => absurd h3 h⟩)
 clear hr hkid hs hsq hqv hT
 generalize TopX w ts qt k = TX at *
 generalize topE ts qt k = E at *
 generalize listB ts = gl at *
 generalize tabB qt = gq at *
 obtain ⟨qi, qn, qc⟩ := qt
 simp only at *
 generalize hxl : ts.length = L at *
 have HXL := hid hxl
 clear hxl
 unfold maxLen at hm
 have HXQ := hid (BoxN.new w #[.int .i64 qi, .string qn, qv] 24)
 have HB0 := hid ((Below.refl w.heap.size w).alloc (Nat.le_refl _) (.cells #[.int .i64 qi, .string qn, qv] 24))
 by_cases hk0 : k < 0
 ·have hE : E = 2 := by rw [HTE.out, if_pos (.inl hk0)]
  have hd : decide (k < 0) = true := decide_eq_true hk0
  go_enter Tryz.func42, Tryz.ntmps42
  generalize hLA : Code.loop _ = LA
  clear hLA
  go_wp2
  (try go_ret2)
  exact HER.out _ _ hE (by omega) HB0.out
 have hdk0 : decide (k < 0) = false := decide_eq_false hk0
 by_cases hk1 : 1024 < k
 ·have hE : E = 2 := by rw [HTE.out, if_pos (.inr hk1)]
  have hd : decide ((1024 : Int) < k) = true := decide_eq_true hk1
  go_enter Tryz.func42, Tryz.ntmps42
  generalize hLA : Code.loop _ = LA
  clear hLA
  go_wp2
  (try go_ret2)
  exact HER.out _ _ hE (by omega) HB0.out
 have hdk1 : decide ((1024 : Int) < k) = false := decide_eq_false hk1
 obtain ⟨kk, rfl⟩ : ∃ m : Nat, k = (m : Int) := ⟨k.toNat, by omega⟩
 have hkk : kk ≤ 1024 := by omega
 have HTE2 := hid (show E = if gl = true ∧ gq = true then 0 else 1 by rw [HTE.out, if_neg (by omega)])
 clear hk0 hk1 HTE
 have x0 := HXQ.out.cell 0 rfl
 have x1 := HXQ.out.cell 1 rfl
 have x2 := HXQ.out.cell 2 rfl
 go_enter Tryz.func42, Tryz.ntmps42
 generalize hLA : Code.loop _ = LA
 go_wp2_with fail
 generalize w.alloc (.cells #[.int .i64 qi, .string qn, qv] 24) = W0 at *
 with_reducible refine (HVL.out _ HB0.out).mono ?_
 rintro e w1 ⟨rfl, hb1⟩
 have HX1 := hid (HXQ.out.below hb1 HXQ.out.lt)
 have HB1 := hid (Fr.belowT HB0.out hb1)
 clear x0 x1 x2 hb1 HXQ HB0
 cases gl with
 | false =>
  have hE : E = 1 := by rw [HTE2.out, if_neg (by simp)]
  clear hLA
  go_wp2
  (try go_ret2)
  exact HER.out _ _ hE (by omega) HB1.out
 | true =>
 have x0 := HX1.out.cell 0 rfl
 have x1 := HX1.out.cell 1 rfl
 have x2 := HX1.out.cell 2 rfl
 go_wp2_with fail
 with_reducible refine (HVQ.out _ HB1.out).mono ?_
 rintro e w2 ⟨rfl, hb2⟩
 have HX2 := hid (HX1.out.below hb2 HX1.out.lt)
 have HB2 := hid (Fr.belowT HB1.out hb2)
 clear x0 x1 x2 hb2 HX1 HB1
 cases gq with
 | false =>
  have hE : E = 1 := by rw [HTE2.out, if_neg (by simp)]
  clear hLA
  go_wp2
  (try go_ret2)
  exact HER.out _ _ hE (by omega) HB2.out
 | true =>
 have HE0 : Hid (E = 0) := hid (by rw [HTE2.out, if_pos (by simp)])
 have HLV1 := hid (HLV.out (by simp))
 have HQV1 := hid (HQV.out (by simp))
 have htl : L ≤ 1024 := by rw [← HXL.out]; exact HLV1.out.1
 clear HLV HQV HTE2 HER
 go_wp2_with fail
 subst hLA
 have hzq : w.heap.size < w2.heap.size := HX2.out.lt
 go_loopg [8, 33] L (fun N v i wr => ∃ (q : Nat) (ds : List Mq), i = .int .i64 (q : Int) ∧ q + N = L ∧ ds.length ≤ q ∧ Hid (TopSr w2 wr v ds ts qc q))
 case atStart => exact ⟨0, [], rfl, by omega, by simp, hid ⟨Below.refl _ _, World.ownsRow_nil _ _ _ _, by simp, by simp [idsP], by simp, fun _ => rfl⟩⟩
 case round =>
  obtain ⟨q, ds, rfl, hq, hdq, HST⟩ := hrel
  have hwr := HST.out.bel.size
  obtain ⟨va, vc, rfl⟩ := own_slice HST.out.row
  have HBW := hid (Fr.belowT HB2.out HST.out.bel)
  by_cases hp : 0 < gk
  ·have hqL : q < L := by omega
   obtain ⟨b, o, rfl, hb, hcell⟩ := HR.out (by omega)
   have hb' : b < B := hb
   have k0 : wr.cell? ⟨b, o + q * 3, none⟩ = some (.int .i64 (ts.getD q Ta.z).id) := (HBW.out.cell (p := ⟨b, o + q * 3, none⟩) (by show b < w.heap.size; omega)).trans (hcell q hqL 0 (by omega))
   have k1 : wr.cell? ⟨b, o + q * 3 + 1, none⟩ = some (.string (ts.getD q Ta.z).name) := (HBW.out.cell (p := ⟨b, o + q * 3 + 1, none⟩) (by show b < w.heap.size; omega)).trans (hcell q hqL 1 (by omega))
   have k2 : wr.cell? ⟨b, o + q * 3 + 2, none⟩ = some (tv q) := (HBW.out.cell (p := ⟨b, o + q * 3 + 2, none⟩) (by show b < w.heap.size; omega)).trans (hcell q hqL 2 (by omega))
   have HSQ := hid (HSC.out HLV1.out HQV1.out q hqL)
   have HAQ := hid (HAL.out HLV1.out HQV1.out q hqL)
   have HSM1 := hid (HSM.out HLV1.out HQV1.out q hqL)
   have HTI1 := hid (HTI.out HLV1.out q hqL)
   have HIS1 := hid (HIS.out q hqL)
   have HUP3 := hid (HUP2.out HLV1.out q hqL)
   have HAP1 := hid (HAP.out q)
   have HPF : Hid (tpP qc (ts.getD q Ta.z) = tpP qc (tabI ts (ts.getD q Ta.z).id)) := hid (by rw [HTI1.out])
   have HQF : Hid (tpQ qc (ts.getD q Ta.z) = tpQ qc (tabI ts (ts.getD q Ta.z).id)) := hid (by rw [HTI1.out])
   have HCF : Hid ((ts.getD q Ta.z).cols = (tabI ts (ts.getD q Ta.z).id).cols) := hid (by rw [HTI1.out])
   clear HTI1
   obtain ⟨ka, kn, kc, hkv⟩ := HKV.out q hqL
   rw [hkv] at k2 HSQ HAQ
   clear hcell hkv
   generalize tpP qc (ts.getD q Ta.z) = P at *
   generalize tpQ qc (ts.getD q Ta.z) = Q at *
   generalize (ts.getD q Ta.z).id = ti at *
   generalize (ts.getD q Ta.z).name = tn at *
   generalize (ts.getD q Ta.z).cols = tc at *
   have HST3 := hid (HST.out.later ((Below.refl wr.heap.size wr).alloc (Nat.le_refl _) (.cells #[.int .i64 ti, .string tn, .slice ka kn kc] 24)))
   have HT3 := hid (BoxN.new wr #[.int .i64 ti, .string tn, .slice ka kn kc] 24)
   have hx3 := HX2.out.below HST3.out.bel HX2.out.lt
   have x0 := hx3.cell 0 rfl
   have x1 := hx3.cell 1 rfl
   have x2 := hx3.cell 2 rfl
   go_wp2_with fail
   generalize wr.alloc (.cells #[.int .i64 ti, .string tn, .slice ka kn kc] 24) = W3 at *
   clear k0 k1 k2 x0 x1 x2
   with_reducible refine (HSQ.out W3 (Fr.belowT HB2.out HST3.out.bel)).mono ?_
   rintro e w4 ⟨a4, c4, d4, e4, rfl, hN, hb4⟩
   have HB5 := hid (hb4.trans ((Below.refl w4.heap.size w4).alloc (Nat.le_refl _) (.cells #[.bool false, .slice a4 (Fr.dig P).length c4, .bool false, .slice d4 (Fr.dig Q).length e4] 49) |>.mono hb4.size))
   have HST5 := hid (HST3.out.later HB5.out)
   have HT5 := hid (HT3.out.below HB5.out HT3.out.lt)
   have HF5 := hid (BoxN.new w4 #[.bool false, .slice a4 (Fr.dig P).length c4, .bool false, .slice d4 (Fr.dig Q).length e4] 49)
   have HR5 := hid ((hN.rd false).kept ((Below.refl w4.heap.size w4).alloc (Nat.le_refl _) (.cells #[.bool false, .slice a4 (Fr.dig P).length c4, .bool false, .slice d4 (Fr.dig Q).length e4] 49)))
   clear hN hb4
   go_upto_region 10 with fail
   generalize w4.alloc (.cells #[.bool false, .slice a4 (Fr.dig P).length c4, .bool false, .slice d4 (Fr.dig Q).length e4] 49) = W5 at *
   generalize w4.heap.size = w4z at *
   generalize hl1 : (Fr.dig P).length = l1 at *
   generalize hl2 : (Fr.dig Q).length = l2 at *
   have HL1 := hid hl1
   have HL2 := hid hl2
   clear hl1 hl2
   have HG := hid (fun W (hW : Below W5.heap.size W5 W) => (⟨(HF5.out.below hW HF5.out.lt).cell 0 rfl, (HF5.out.below hW HF5.out.lt).cell 1 rfl, (HF5.out.below hW HF5.out.lt).cell 2 rfl, (HF5.out.below hW HF5.out.lt).cell 3 rfl⟩ : W.cell? ⟨w4z, 0, none⟩ = some (.bool false) ∧ W.cell? ⟨w4z, 1, none⟩ = some (.slice a4 l1 c4) ∧ W.cell? ⟨w4z, 2, none⟩ = some (.bool false) ∧ W.cell? ⟨w4z, 3, none⟩ = some (.slice d4 l2 e4)))
   have HC5 := hid (Below.refl W5.heap.size W5)
   have HLE : Hid (∀ (u : Value) (W : World), Fr.RdF W u false 0 1 → Fr.RdF W (.agg #[.bool false, .slice a4 l1 c4, .bool false, .slice d4 l2 e4]) false P Q → Calls Tryz.prog 84 #[u, .agg #[.bool false, .slice a4 l1 c4, .bool false, .slice d4 l2 e4]] W (Ret W (.bool (decide (0 < P))))) := hid (fun u W h1 h2 => by
    have h := Fr.ref_Less u _ 0 1 P Q W h1 h2 HS01.out HSM1.out
    rw [Nat.zero_mul, Nat.mul_one] at h
    exact h)
   generalize hpd : decide (0 < P) = pd at *
   have HPD := hid hpd
   clear hpd
   go_cut [45] from 43 to 45 (fun s45 wx => s45 = .bool pd ∧ Hid (Below W5.heap.size W5 wx))
   case first =>
    go_region_held3 (fun w' => w'.cell? ⟨w4z, 0, none⟩ = some (.bool false) ∧ w'.cell? ⟨w4z, 1, none⟩ = some (.slice a4 l1 c4) ∧ w'.cell? ⟨w4z, 2, none⟩ = some (.bool false) ∧ w'.cell? ⟨w4z, 3, none⟩ = some (.slice d4 l2 e4))
     (first | exact HG.out _ HC8.out | exact HG.out _ HC7.out | exact HG.out _ (by have h1 := HC5.out; repeat' (first | (with_reducible exact Below.refl _ _) | (with_reducible assumption) | (with_reducible refine below_drewN ?_) | (with_reducible refine Below.alloc ?_ ?_ _) | (with_reducible refine Below.drew ?_) | (with_reducible refine Below.setCell ?_ ?_ _) | (with_reducible refine Below.trans ?_ (Below.mono (by with_reducible assumption) ?_)) | go_size)) | go_keep)
     (first
      | (go_at_call 35; go_must ((with_reducible refine (HZE.out _).mono ?_); rintro e w7 ⟨x4, y4, x5, y5, rfl, hN7, hb7⟩; have HC7 : Hid (Below W5.heap.size W5 w7) := hid (by have h1 := HC5.out; repeat' (first | (with_reducible exact Below.refl _ _) | (with_reducible assumption) | (with_reducible refine below_drewN ?_) | (with_reducible refine Below.alloc ?_ ?_ _) | (with_reducible refine Below.drew ?_) | (with_reducible refine Below.setCell ?_ ?_ _) | (with_reducible refine Below.trans ?_ (Below.mono (by with_reducible assumption) ?_)) | go_size)); have HN7 := hid (hN7.rd false); have HN57 := hid (HR5.out.kept HC7.out); clear hb7 hN7))
      | (go_at_call 84; go_must ((with_reducible refine (HLE.out _ _ HN7.out HN57.out).mono ?_); rintro e w8 ⟨rfl, hb8⟩; have HC8 : Hid (Below W5.heap.size W5 w8) := hid (HC7.out.trans (hb8.mono HC7.out.size)); clear hb8)))
    all_goals
     go_wp2_with fail
     go_meet
     exact ⟨rfl, HC8⟩
   case rest =>
   obtain ⟨rfl, HB6⟩ := hcut
   have HST6 := hid (HST5.out.later HB6.out)
   have HT6 := hid (HT5.out.below HB6.out HT5.out.lt)
   have HF6 := hid (HF5.out.below HB6.out HF5.out.lt)
   have HR6 := hid (HR5.out.kept HB6.out)
   clear HG HC5 HLE HB5
   by_cases hP : 0 < P
   ·obtain rfl : pd = true := by rw [← HPD.out]; exact decide_eq_true hP
    have hx6 := HX2.out.below HST6.out.bel HX2.out.lt
    have x0 := hx6.cell 0 rfl
    have x1 := hx6.cell 1 rfl
    have x2 := hx6.cell 2 rfl
    have y0 := HT6.out.cell 0 rfl
    have y1 := HT6.out.cell 1 rfl
    have y2 := HT6.out.cell 2 rfl
    clear hx6
    go_wp2_with fail
    with_reducible refine (HAQ.out wc (Fr.belowT HB2.out HST6.out.bel)).mono ?_
    intro e w7 hal
    have HALG := hid (HAP1.out hP)
    obtain ⟨hb7, al, ac, rfl, hin⟩ := align_own hal HALG.out
    obtain ⟨an, han⟩ : ∃ an, an = qc.length := ⟨_, rfl⟩
    rw [← han] at hin ⊢
    have HST7 := hid (HST6.out.later hb7)
    have HT7 := hid (HT6.out.below hb7 HT6.out.lt)
    have HF7 := hid (HF6.out.below hb7 HF6.out.lt)
    have HR7 := hid (HR6.out.kept hb7)
    have HIN := hid (hin.more (S' := (· < w7.heap.size)) fun b hb => hb.2)
    clear hal hb7 hin han x0 x1 x2 y0 y1 y2
    have y0 := HT7.out.cell 0 rfl
    have z0 := HF7.out.cell 0 rfl
    have z1 := HF7.out.cell 1 rfl
    have z2 := HF7.out.cell 2 rfl
    have z3 := HF7.out.cell 3 rfl
    obtain ⟨xq, hxq⟩ : ∃ xq : Mq, xq.1 = ⟨ti, (al, an, ac), (a4, c4), (d4, e4), P, Q⟩ := ⟨⟨_, HSM1.out.pos⟩, rfl⟩
    have hfr : xq.1.fr = .agg #[.bool false, .slice a4 l1 c4, .bool false, .slice d4 l2 e4] := by rw [hxq]; unfold Mh.fr; rw [HL1.out, HL2.out]
    have HMT : Hid (MtOk w7 ts qc xq.1) := hid (by
     refine ⟨by rw [hxq]; exact HPF.out, by rw [hxq]; exact HQF.out, by rw [hfr, hxq]; exact HR7.out, by rw [hxq]; exact HSM1.out, ?_⟩
     rw [hxq]
     show InK 1 _ _ (.slice al an ac) (alignL qc (tabI ts ti).cols).length _
     rw [← HCF.out]
     exact HIN.out)
    have HPUT := hid (ref28_Put ds xq (.slice va ds.length vc) w2.heap.size w7 HST7.out.row (fun h => HST7.out.start (List.eq_nil_of_length_eq_zero h)) (by omega) (fun y hy => ⟨(HST7.out.good y hy).rd, (HST7.out.good y hy).sm⟩) HMT.out.rd HMT.out.sm (fun y hy => by
     rw [hxq]
     exact HUP3.out _ (HST7.out.ids.mem_iff.1 (List.mem_map_of_mem hy))))
    have HXI : Hid (xq.1.id = ti) := hid (by rw [hxq])
    rw [hxq] at HPUT
    simp only at HPUT
    rw [HL1.out, HL2.out] at HPUT
    clear hfr hxq
    go_wp2_with fail
    with_reducible refine HPUT.out.mono ?_
    clear y0 z0 z1 z2 z3 HPUT
    rintro e w8 ⟨kp, p8, cap8, hk8, rfl, hown8, h18, h28, hb8⟩
    have HST8 := hid (HST7.out.put HMT.out (by rw [HXI.out, HIS1.out, if_pos hP]) (by rw [HXI.out]; exact HUP3.out) hk8 hown8 h18 h28 hb8)
    have hpl := putI_len hk8 xq
    clear hown8 h18 h28 hb8 hk8
    go_wp2
    go_roundg (gk - 1)
    case rel => exact ⟨q + 1, putI ds kp xq, by go_num, by omega, by omega, HST8⟩
    case measure => omega
   ·obtain rfl : pd = false := by rw [← HPD.out]; exact decide_eq_false hP
    have HSK := hid (HST6.out.skip (by rw [HIS1.out, if_neg hP]))
    go_wp2
    go_roundg (gk - 1)
    case rel => exact ⟨q + 1, ds, by go_num, by omega, by omega, HSK⟩
    case measure => omega
  ·obtain rfl : gk = 0 := by omega
   obtain rfl : q = L := by omega
   have HIDS : Hid ((ds.map (fun x => x.1.id)).Perm (idsP ts qc)) := hid (by rw [← HIE.out]; exact HST.out.ids)
   have hrow := HST.out.row
   obtain ⟨hc1, hc2⟩ := own_capsA hrow
   have hin := inK_of_owns (by rw [← FL_enc] at hrow; exact hrow)
   have HFIN := hid (HTX.out wr va (min kk ds.length) vc ((ds.map (fun x => x.1.id)).take (min kk ds.length)) HBW.out
    (RdM.front rfl (hin.more fun b hb => (hrow.lt b hb).2) HST.out.good (Nat.min_le_right _ _)) HE0.out (ds.map (fun x => x.1.id)) HIDS.out HST.out.srt (by
     show List.take (min kk ds.length) _ = List.take ((kk : Int)).toNat _
     rw [show ((kk : Int)).toNat = kk by omega]
     have hlm : (ds.map (fun x => x.1.id)).length = ds.length := by rw [List.length_map]
     rcases Nat.le_total kk ds.length with h | h
     ·rw [Nat.min_eq_left h]
     ·rw [Nat.min_eq_right h, List.take_of_length_le (by omega), List.take_of_length_le (by omega)]))
   have HS0 := hid (fun (h : ds.length = 0) => HST.out.start (List.eq_nil_of_length_eq_zero h))
   clear hrow hin HST HIDS
   unfold maxLen at hc2
   generalize ds.length = n at *
   obtain ⟨m, hmd⟩ : ∃ m, min kk n = m := ⟨_, rfl⟩
   rw [hmd] at HFIN
   have hmm : min (kk : Int) (n : Int) = (m : Int) := by omega
   have hm1 : (m : Int) ≤ (vc : Int) := by omega
   have hm2 : m ≤ vc := by omega
   clear hmd
   go_wp2
   (try go_ret2)
   exact HFIN.out
end Go.Proofs.YthblaeleogdfpaaGreatDoor
