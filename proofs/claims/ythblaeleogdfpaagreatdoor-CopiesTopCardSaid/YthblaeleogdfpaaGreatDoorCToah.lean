/- Contract of copies.Common, at valid tables. -/
import Derived.Test.YthblaeleogdfpaaGreatDoorCToad
import Derived.Test.YthblaeleogdfpaaGreatDoorCToaf
import Derived.Test.YthblaeleogdfpaaGreatDoorCToag
set_option linter.unusedVariables false
set_option linter.unusedSimpArgs false
namespace Go.Proofs.YthblaeleogdfpaaGreatDoor
open Go.RowKit Go.Shelf
section
variable {α : Type} [DecidableEq α]
def cntL (l : List α) (x : α) : Nat := (l.filter fun y => decide (y = x)).length
theorem cntL_cons (a : α) (l : List α) (x : α) : cntL (a :: l) x = cntL l x + if a = x then 1 else 0 := by
 unfold cntL
 rw [List.filter_cons]
 by_cases h : a = x
 ·rw [if_pos (by simpa using h), if_pos h]; rfl
 ·rw [if_neg (by simpa using h), if_neg h]; rfl
theorem cntL_append (a b : List α) (x : α) : cntL (a ++ b) x = cntL a x + cntL b x := by simp [cntL]
theorem cntL_pos {l : List α} {x : α} : 0 < cntL l x ↔ x ∈ l := by
 unfold cntL
 rw [List.length_pos_iff_exists_mem]
 constructor
 ·rintro ⟨y, hy⟩
  rw [List.mem_filter, decide_eq_true_iff] at hy
  exact hy.2 ▸ hy.1
 ·intro h
  exact ⟨x, List.mem_filter.2 ⟨h, by simp⟩⟩
def erL (l : List α) (x : α) : List α := l.erase x
theorem erL_len (l : List α) (x : α) : (erL l x).length ≤ l.length := List.length_erase_le
theorem cntL_erase {l : List α} {x : α} (h : x ∈ l) (y : α) : cntL (erL l x) y + (if x = y then 1 else 0) = cntL l y := by
 unfold erL
 have hp : cntL l y = cntL (x :: l.erase x) y := ((List.perm_cons_erase h).filter _).length_eq
 rw [hp, cntL_cons]
theorem cntL_le (l : List α) (x : α) : cntL l x ≤ l.length := List.length_filter_le _ _
theorem comL_step_yes {A B R : List α} {n q : Nat} (hq : q < A.length) (x : α) (hx : A[q]? = some x) (h : comL A B = n + comL (A.drop q) R) (hm : x ∈ R) : comL A B = n + 1 + comL (A.drop (q + 1)) (erL R x) := by
 unfold erL
 have e : A.drop q = x :: A.drop (q + 1) := by
  rw [List.drop_eq_getElem_cons hq]
  rw [List.getElem?_eq_getElem hq] at hx
  rw [Option.some.inj hx]
 rw [e, comL_cons, if_pos hm] at h
 omega
theorem comL_step_no {A B R : List α} {n q : Nat} (hq : q < A.length) (x : α) (hx : A[q]? = some x) (h : comL A B = n + comL (A.drop q) R) (hm : x ∉ R) : comL A B = n + comL (A.drop (q + 1)) R := by
 have e : A.drop q = x :: A.drop (q + 1) := by
  rw [List.drop_eq_getElem_cons hq]
  rw [List.getElem?_eq_getElem hq] at hx
  rw [Option.some.inj hx]
 rw [e, comL_cons, if_neg hm] at h
 exact h
end
theorem txtR_inj {r s : List Cl} (hl : r.length = s.length) (hr : ∀ c ∈ r, CellOk c) (hs : ∀ c ∈ s, CellOk c) (h : txtR r = txtR s) : r = s := by
 have h1 : encR r = encR s := by
  unfold txtR at h
  injection h with h
  simpa using congrArg Array.toList h
 exact encR_inj hl (fun c hc => ⟨(hr c hc).1, by have := (hr c hc).2.1; omega⟩) (fun c hc => ⟨(hs c hc).1, by have := (hs c hc).2.1; omega⟩) h1
def txtsR (xs : List Co) (al : List Nat) (n : Nat) : List ByteArray := (rowsOf xs al n).map txtR
theorem txtsR_len (xs : List Co) (al : List Nat) (n : Nat) : (txtsR xs al n).length = n := by simp [txtsR, rowsOf]
theorem txtsR_at {xs : List Co} {al : List Nat} {n i : Nat} (h : i < n) : (txtsR xs al n)[i]? = some (txtR (rowAt xs al i)) := by simp [txtsR, rowsOf, h]
theorem tab_row {t : Ta} (h : TabV t) {i : Nat} (hi : i < rowsN t.cols) : ∀ x ∈ t.cols, i < x.cells.length ∧ x.cells.length ≤ 1048576 ∧ ∀ c ∈ x.cells, CellOk c := by
 obtain ⟨-, -, -, -, n, hn, hc⟩ := h
 intro x hx
 have h0 : 0 < t.cols.length := List.length_pos_of_mem hx
 have h1 := (hc _ (getD_mem h0 Co.z)).2.1
 have h2 := hc x hx
 unfold rowsN at hi
 refine ⟨by omega, by omega, h2.2.2⟩
theorem cell_ok {t : Ta} (h : TabV t) {k i : Nat} (hi : i < rowsN t.cols) (hk : k < t.cols.length) : CellOk (cellAt t.cols k i) := by
 have h1 := tab_row h hi _ (getD_mem hk Co.z)
 exact h1.2.2 _ (getD_mem h1.1 Cl.z)
theorem com_txt {ta tb : Ta} (h1 : TabV ta) (h2 : TabV tb) (ha : Aligns ta.cols tb.cols) :
  comL (txtsR ta.cols (ownL ta.cols) (rowsN ta.cols)) (txtsR tb.cols (alignL ta.cols tb.cols) (rowsN tb.cols)) = commonL ta.cols tb.cols := by
 unfold commonL
 rw [if_pos ha]
 unfold txtsR
 refine comL_map fun r hr s hs e => ?_
 obtain ⟨i, hi, rfl⟩ := mem_rowsOf hr
 obtain ⟨j, hj, rfl⟩ := mem_rowsOf hs
 refine txtR_inj (by rw [rowAt_len, rowAt_len, alignL_len]; simp [ownL]) (fun c hc => ?_) (fun c hc => ?_) e
 ·obtain ⟨k, hk, rfl⟩ := List.mem_map.1 hc
  exact cell_ok h1 hi (List.mem_range.1 hk)
 ·obtain ⟨k, hk, rfl⟩ := List.mem_map.1 hc
  obtain ⟨q, hq, rfl⟩ := List.getElem_of_mem hk
  have h3 := (align_back ha (i := q) (by simpa [alignL_len] using hq)).2
  have e2 : (alignL ta.cols tb.cols).getD q 0 = (alignL ta.cols tb.cols)[q] := by simp [List.getD, hq]
  rw [e2] at h3
  exact cell_ok h2 hj h3
theorem align_lt {a b : List Co} (h : Aligns a b) : ∀ k ∈ alignL a b, k < b.length := fun k hk => by
 obtain ⟨q, hq, rfl⟩ := List.getElem_of_mem hk
 have h3 := (align_back h (i := q) (by simpa [alignL_len] using hq)).2
 have e2 : (alignL a b).getD q 0 = (alignL a b)[q] := by simp [List.getD, hq]
 rwa [e2] at h3
theorem rows_le {t : Ta} (h : TabV t) : rowsN t.cols ≤ 4096 := by
 obtain ⟨-, -, -, -, n, hn, hc⟩ := h
 by_cases h0 : 0 < t.cols.length
 ·have h1 := (hc _ (getD_mem h0 Co.z)).2.1
  unfold rowsN
  omega
 ·have : t.cols = [] := List.eq_nil_of_length_eq_zero (by omega)
  rw [this]
  exact Nat.zero_le _
theorem txt_size {t : Ta} (h : TabV t) {al : List Nat} (hal : ∀ k ∈ al, k < t.cols.length) (hl : al.length ≤ 64) {i : Nat} (hi : i < rowsN t.cols) : (txtR (rowAt t.cols al i)).size ≤ maxLen := by
 have h1 := encR_len (r := rowAt t.cols al i) fun c hc => by
  obtain ⟨k, hk, rfl⟩ := List.mem_map.1 hc
  exact cell_ok h hi (hal k hk)
 rw [rowAt_len] at h1
 have h2 : (txtR (rowAt t.cols al i)).size = (encR (rowAt t.cols al i)).length := List.size_toArray
 unfold maxLen
 omega
theorem made_intsE (n : Nat) (h : n ≤ 1048576) (w : World) :
  (Instr.makeSlice 25 (.int .i64 (n : Int)) (.int .i64 (n : Int))).run Tryz.prog w = .ok (.slice (some ⟨w.heap.size, 0, none⟩) n n) (w.alloc (.cells (madeCells #[.int .i64 0] n) 3)) :=
 run_make_row' (P := Tryz.prog) 25 3 (.int .i64 0) 8 Tryz.underlying25 info_intE rfl .i64 .i64 n (by omega) (by omega) w
theorem wf_small {k : Nat} (h : k ≤ 1099511627776) : (Lit.int .i64 ((k : Nat) : Int)).wf = true := by
 have e : ((k : Nat) : Int) = wrap64 ((k : Nat) : Int) := by unfold wrap64; omega
 rw [e]
 exact wrap64_wf _
theorem wf_small1 {k : Nat} (h : k ≤ 268435456) : (Lit.int .i64 ((k : Int) + 1)).wf = true := wf_small (k := k + 1) (by omega)
set_option maxRecDepth 100000 in
set_option maxHeartbeats 4000000 in
theorem copies_Common (ta tb : Ta) (v u : Value) (B : Nat) (w : World) (h1 : TabV ta) (h2 : TabV tb) (hv : RdCo w (· < B) v ta.cols) (hu : RdCo w (· < B) u tb.cols) (hB : B ≤ w.heap.size) (hT : Tabs w) (hP : Pow w) :
  Calls Tryz.prog 16 #[.agg #[.int .i64 ta.id, .string ta.name, v], .agg #[.int .i64 tb.id, .string tb.name, u]] w (fun e w' => e = .returned (.tuple #[.int .i64 ((commonL ta.cols tb.cols : Nat) : Int), .int .i64 0]) ∧ Below w.heap.size w w') := by
 have HV1 := hid (fun W (hW : Below w.heap.size w W) => table_Valid ta v B W h1 (hv.keep fun p (hp : p.block < B) => hW.cell (p := p) (by omega)) (Nat.le_trans hB hW.size) (hT.below hW))
 have HV2 := hid (fun W (hW : Below w.heap.size w W) => table_Valid tb u B W h2 (hu.keep fun p (hp : p.block < B) => hW.cell (p := p) (by omega)) (Nat.le_trans hB hW.size) (hT.below hW))
 have HR1 := hid (fun W (hW : Below w.heap.size w W) => table_Rows ta.id ta.name v ta.cols B W (hv.keep fun p (hp : p.block < B) => hW.cell (p := p) (by omega)) (Nat.le_trans hB hW.size))
 have HR2 := hid (fun W (hW : Below w.heap.size w W) => table_Rows tb.id tb.name u tb.cols B W (hu.keep fun p (hp : p.block < B) => hW.cell (p := p) (by omega)) (Nat.le_trans hB hW.size))
 have hx64 : ta.cols.length ≤ 64 := h1.2.2.2.1
 have hy64 : tb.cols.length ≤ 64 := h2.2.2.2.1
 have HAL := hid (fun W (hW : Below w.heap.size w W) => copies_Align ta.id tb.id ta.name tb.name v u ta.cols tb.cols B W (hv.keep fun p (hp : p.block < B) => hW.cell (p := p) (by omega)) (hu.keep fun p (hp : p.block < B) => hW.cell (p := p) (by omega)) (Nat.le_trans hB hW.size) (by omega) (by omega))
 have HNA : Hid (¬ Aligns ta.cols tb.cols → commonL ta.cols tb.cols = 0) := hid (fun h => if_neg h)
 have HLT := hid (fun (h : Aligns ta.cols tb.cols) => align_lt h)
 have HAN := hid (alignL_len ta.cols tb.cols)
 have HTB := hid (fun (h : Aligns ta.cols tb.cols) i (hi : i < rowsN tb.cols) vv B' W (hv' : InK 1 W (· < B') vv (alignL ta.cols tb.cols).length (fun j _ => .int .i64 (((alignL ta.cols tb.cols).getD j 0 : Nat) : Int))) (hB' : B' ≤ W.heap.size) (hBB : B ≤ B') (hW : Below w.heap.size w W) =>
  copies_text tb.id tb.name u vv tb.cols (alignL ta.cols tb.cols) i B' W ((hu.keep fun p (hp : p.block < B) => hW.cell (p := p) (by omega)).more fun b hb => Nat.lt_of_lt_of_le hb hBB) hv' hB' (align_lt h) (by omega) (by rw [alignL_len]; omega) (tab_row h2 hi) (hP.below hW (Nat.le_refl _)))
 have HTA := hid (fun i (hi : i < rowsN ta.cols) vv B' W (hv' : InK 1 W (· < B') vv (ownL ta.cols).length (fun j _ => .int .i64 (((ownL ta.cols).getD j 0 : Nat) : Int))) (hB' : B' ≤ W.heap.size) (hBB : B ≤ B') (hW : Below w.heap.size w W) =>
  copies_text ta.id ta.name v vv ta.cols (ownL ta.cols) i B' W ((hv.keep fun p (hp : p.block < B) => hW.cell (p := p) (by omega)).more fun b hb => Nat.lt_of_lt_of_le hb hBB) hv' hB' (fun k hk => List.mem_range.1 hk) (by omega) (by simp [ownL]; omega) (tab_row h1 hi) (hP.below hW (Nat.le_refl _)))
 have HSB := hid (fun (h : Aligns ta.cols tb.cols) i (hi : i < rowsN tb.cols) => txt_size h2 (align_lt h) (by rw [alignL_len]; omega) hi)
 have HSA := hid (fun i (hi : i < rowsN ta.cols) => txt_size h1 (al := ownL ta.cols) (fun k hk => List.mem_range.1 hk) (by simp [ownL]; omega) hi)
 have HCT := hid (fun (h : Aligns ta.cols tb.cols) => com_txt h1 h2 h)
 have hra := rows_le h1
 have hrb := rows_le h2
 have HOL : Hid ((ownL ta.cols).length = ta.cols.length) := hid (by simp [ownL])
 have HOG : Hid (∀ j, j < ta.cols.length → (ownL ta.cols).getD j 0 = j) := hid (fun j hj => by simp [ownL, List.getD, hj])
 have HCR1 : Hid (rowsC ta.cols = rowsN ta.cols) := hid rfl
 have HCR2 : Hid (rowsC tb.cols = rowsN tb.cols) := hid rfl
 have hmm := @run_makeMap Tryz.prog
 obtain ⟨a1, k1, rfl⟩ : ∃ a1 k1, v = .slice a1 ta.cols.length k1 := by
  obtain ⟨_, ⟨a1, k1, e, -⟩, -⟩ := hv
  exact ⟨a1, k1, e⟩
 obtain ⟨a2, k2, rfl⟩ : ∃ a2 k2, u = .slice a2 tb.cols.length k2 := by
  obtain ⟨_, ⟨a2, k2, e, -⟩, -⟩ := hu
  exact ⟨a2, k2, e⟩
 clear hv hu hT hP h1 h2
 rw [HCR1.out] at HR1
 rw [HCR2.out] at HR2
 clear HCR1 HCR2
 generalize rowsN ta.cols = ra at *
 generalize rowsN tb.cols = rb at *
 generalize hn : ta.cols.length = n at *
 have HN := hid hn
 clear hn
 generalize tb.cols.length = m at *
 generalize ta.cols = xs at *
 generalize tb.cols = ys at *
 generalize ta.id = i1 at *
 generalize tb.id = i2 at *
 generalize ta.name = n1 at *
 generalize tb.name = n2 at *
 generalize commonL xs ys = R at *
 have HX1 := hid ((BoxN.new w #[.int .i64 i1, .string n1, .slice a1 n k1] 24).alloc (.cells #[.int .i64 i2, .string n2, .slice a2 m k2] 24))
 have hx2 := BoxN.new (w.alloc (.cells #[.int .i64 i1, .string n1, .slice a1 n k1] 24)) #[.int .i64 i2, .string n2, .slice a2 m k2] 24
 rw [World.size_alloc] at hx2
 have HX2 := hid hx2
 have HB0 : Hid (Below w.heap.size w ((w.alloc (.cells #[.int .i64 i1, .string n1, .slice a1 n k1] 24)).alloc (.cells #[.int .i64 i2, .string n2, .slice a2 m k2] 24))) := hid (((Below.refl _ w).alloc (Nat.le_refl _) _).alloc (by simp) _)
 have hz : ((w.alloc (.cells #[.int .i64 i1, .string n1, .slice a1 n k1] 24)).alloc (.cells #[.int .i64 i2, .string n2, .slice a2 m k2] 24)).heap.size = w.heap.size + 2 := by simp
 have c0 := HX1.out.cell 0 rfl
 have c1 := HX1.out.cell 1 rfl
 have c2 := HX1.out.cell 2 rfl
 clear hx2
 go_enter Tryz.func16, Tryz.ntmps16
 generalize hLA : Code.loop _ = LA
 generalize hLB : Code.loop _ = LB
 generalize hLC : Code.loop _ = LC
 go_wp2_with fail
 with_reducible refine (HV1.out _ HB0.out).mono ?_
 clear c0 c1 c2
 generalize (w.alloc (.cells #[.int .i64 i1, .string n1, .slice a1 n k1] 24)).alloc (.cells #[.int .i64 i2, .string n2, .slice a2 m k2] 24) = W0 at *
 rintro e w1 ⟨rfl, hb1⟩
 have HX11 := hid (HX1.out.below hb1 HX1.out.lt)
 have HX21 := hid (HX2.out.below hb1 HX2.out.lt)
 have HB1 := hid (HB0.out.trans (hb1.mono HB0.out.size))
 have d0 := HX21.out.cell 0 rfl
 have d1 := HX21.out.cell 1 rfl
 have d2 := HX21.out.cell 2 rfl
 have hz1 := hb1.size
 clear hb1
 go_wp2_with fail
 with_reducible refine (HV2.out _ HB1.out).mono ?_
 rintro e w2 ⟨rfl, hb2⟩
 have HX12 := hid (HX11.out.below hb2 HX11.out.lt)
 have HX22 := hid (HX21.out.below hb2 HX21.out.lt)
 have HB2 := hid (HB1.out.trans (hb2.mono HB1.out.size))
 have hz2 := hb2.size
 clear hb2 d0 d1 d2
 have c0 := HX12.out.cell 0 rfl
 have c1 := HX12.out.cell 1 rfl
 have c2 := HX12.out.cell 2 rfl
 have d0 := HX22.out.cell 0 rfl
 have d1 := HX22.out.cell 1 rfl
 have d2 := HX22.out.cell 2 rfl
 go_wp2_with fail
 with_reducible refine (HAL.out _ HB2.out).mono ?_
 clear c0 c1 c2 d0 d1 d2
 rintro e w3 ⟨hb3, ⟨hna, rfl⟩ | ⟨ha, aa, ac, rfl, hown3⟩⟩
 ·have HB3 := hid (HB2.out.trans (hb3.mono HB2.out.size))
  have hR : R = 0 := HNA.out hna
  subst hR
  clear hna hb3
  go_wp2
  go_ret2
  exact ⟨rfl, HB3.out⟩
 ·have HA := hid ha
  have HB3 := hid (HB2.out.trans (hb3.mono HB2.out.size))
  have HX13 := hid (HX12.out.below hb3 HX12.out.lt)
  have HX23 := hid (HX22.out.below hb3 HX22.out.lt)
  have HOW := hid hown3
  have hz3 := hb3.size
  rw [HN.out] at hown3 HOW ⊢
  have hmk := made_intsE n (by omega)
  clear ha hb3 hown3
  go_wp2_with fail
  clear hmk
  have HB4 := hid (HB3.out.alloc HB3.out.size (.cells (madeCells #[.int .i64 0] n) 3))
  have HB34 := hid ((Below.refl w3.heap.size w3).alloc (Nat.le_refl _) (.cells (madeCells #[.int .i64 0] n) 3))
  have HRO := hid (World.rowIs_made w3 (.int .i64 0) n 3)
  generalize w3.alloc (.cells (madeCells #[.int .i64 0] n) 3) = W4 at *
  generalize hob : w3.heap.size = ob at *
  have hobw : w.heap.size ≤ ob := by have := HB3.out.size; omega
  subst hLA
  go_loopg [36] n (fun N i wr => ∃ (q : Nat) (f : Nat → Value), q + N = n ∧ i = .int .i64 (q : Int) ∧ Hid (wr.rowIs ob 3 n f ∧ (∀ j, j < q → f j = .int .i64 (j : Int)) ∧ Below ob w3 wr))
  case atStart => exact ⟨0, _, by omega, rfl, hid ⟨HRO.out, fun j hj => absurd hj (by omega), HB34.out⟩⟩
  case round =>
   obtain ⟨q, f, hq, rfl, HST⟩ := hrel
   by_cases hp : 0 < gk
   ·have f0 := HST.out.1.frozen q
    have o0 := HST.out.1.cell (i := q) (by omega)
    have HS2 : Hid ((wr.setCell ⟨ob, q, none⟩ (.int .i64 (q : Int))).rowIs ob 3 n (fun j => if j = q then .int .i64 (q : Int) else f j) ∧ (∀ j, j < q + 1 → (if j = q then Value.int .i64 (q : Int) else f j) = .int .i64 (j : Int)) ∧ Below ob w3 (wr.setCell ⟨ob, q, none⟩ (.int .i64 (q : Int)))) := hid ⟨HST.out.1.set q _, fun j hj => by
      by_cases e : j = q
      ·rw [if_pos e, e]
      ·rw [if_neg e]; exact HST.out.2.1 j (by omega), HST.out.2.2.setCell (p := ⟨ob, q, none⟩) (Nat.le_refl _) _⟩
    go_wp2_with fail
    go_roundg (gk - 1)
    case rel => exact ⟨q + 1, _, by omega, by go_num, HS2⟩
    case measure => omega
   ·obtain rfl : q = n := by omega
    have hob5 := HST.out.1.lt
    have hz5 := HST.out.2.2.size
    have HB5 := hid (HB3.out.trans (HST.out.2.2.mono hobw))
    have HOI : Hid (∀ W, Below wr.heap.size wr W → InK 1 W (· < wr.heap.size) (.slice (some ⟨ob, 0, none⟩) q q) (ownL xs).length (fun j _ => .int .i64 (((ownL xs).getD j 0 : Nat) : Int))) := hid (fun W hW => by
     rw [HOL.out]
     refine ⟨_, _, rfl, Nat.le_refl _, by unfold maxLen; omega, fun hp => ⟨ob, 0, rfl, hob5, fun i hi j hj => ?_⟩⟩
     obtain rfl : j = 0 := by omega
     rw [Nat.zero_add, Nat.mul_one, Nat.add_zero, hW.cell (p := ⟨ob, i, none⟩) hob5, HST.out.1.cell hi, HST.out.2.1 i hi]
     show some (Value.int .i64 (i : Int)) = some (Value.int .i64 (((ownL xs).getD i 0 : Nat) : Int))
     rw [HOG.out i hi])
    have HAI : Hid (∀ W, Below wr.heap.size wr W → InK 1 W (· < wr.heap.size) (.slice aa q ac) (alignL xs ys).length (fun j _ => .int .i64 (((alignL xs ys).getD j 0 : Nat) : Int))) := hid (fun W hW => by
     have h1 := rd_of_owns HOW.out (fun j => .int .i64 (((alignL xs ys).getD j 0 : Nat) : Int)) (fun i hi => by
      have : i < (alignL xs ys).length := by rw [HAN.out]; exact hi
      simp [intsV, List.getD, this])
     have h2 := inK_of_rd h1
     rw [HAN.out]
     exact (h2.keep fun p hp => (hW.cell (p := p) (by have : p.block < w3.heap.size := hp; omega)).trans (HST.out.2.2.cell (p := p) (by have : p.block < w3.heap.size := hp; omega))).more fun b hb => by have : b < w3.heap.size := hb; omega)
    have HX15 := hid (HX13.out.below HST.out.2.2 (by omega))
    have HX25 := hid (HX23.out.below HST.out.2.2 (by omega))
    have hz5w := HB5.out.size
    clear HST HRO
    generalize hw5 : wr = w5 at *
    clear hw5
    have HM5 := hid (MapI.made w5)
    have HBM := hid ((Below.refl w5.heap.size w5).alloc (Nat.le_refl _) (.map #[] 0))
    have HX26 := hid (HX25.out.below HBM.out HX25.out.lt)
    have HB6 := hid (HB5.out.trans (HBM.out.mono hz5w))
    have hz6 : (w5.alloc (.map #[] 0)).heap.size = w5.heap.size + 1 := by simp
    have d0 := HX26.out.cell 0 rfl
    have d1 := HX26.out.cell 1 rfl
    have d2 := HX26.out.cell 2 rfl
    go_wp2_with fail
    with_reducible refine (HR2.out _ HB6.out).mono ?_
    clear d0 d1 d2
    generalize w5.alloc (.map #[] 0) = W6 at *
    generalize hmb : w5.heap.size = mb at *
    rintro e w7 ⟨rfl, hb7⟩
    have HB57 := hid (HBM.out.trans (hb7.mono (by omega)))
    have HM7 := hid (HM5.out.later (hb7.block mb (by omega)))
    have hz7 := hb7.size
    clear hb7
    go_wp2_with fail
    subst hLB
    obtain ⟨l0, rfl⟩ : ∃ l0, l0 = q := ⟨q, rfl⟩
    have HTS : Hid (∀ i, i < rb → (txtsR ys (alignL xs ys) rb).take (i + 1) = (txtsR ys (alignL xs ys) rb).take i ++ [txtR (rowAt ys (alignL xs ys) i)]) := hid (fun i hi => by
     have h2 : i < (txtsR ys (alignL xs ys) rb).length := by rw [txtsR_len]; exact hi
     rw [List.take_succ_eq_append_getElem h2]
     have h3 := txtsR_at (xs := ys) (al := alignL xs ys) hi
     rw [List.getElem?_eq_getElem h2] at h3
     rw [Option.some.inj h3])
    have HTL := hid (txtsR_len ys (alignL xs ys) rb)
    have HCA := hid (HCT.out HA.out)
    generalize hTB : txtsR ys (alignL xs ys) rb = TB at *
    clear hTB
    go_loopg [47] rb (fun N i wr => ∃ (q : Nat) (F : ByteArray → Option Nat), q + N = rb ∧ i = .int .i64 (q : Int) ∧ Hid (MapI wr mb q F ∧ (∀ s, (F s).getD 0 = cntL (TB.take q) s) ∧ Below mb w5 wr))
    case atStart => exact ⟨0, _, by omega, rfl, hid ⟨HM7.out, fun s => by simp [cntL], HB57.out⟩⟩
    case round =>
     obtain ⟨q, F, hq, rfl, HST⟩ := hrel
     have HBW := hid (HB5.out.trans (HST.out.2.2.mono hz5w))
     have hzr := HST.out.2.2.size
     have hmbl := HST.out.1.lt
     by_cases hp : 0 < gk
     ·have hqr : q < rb := by omega
      have HTX := hid (HTB.out HA.out q hqr (.slice aa l0 ac) mb wr (by have h := HAI.out wr HST.out.2.2; exact h) (by omega) (by omega) HBW.out)
      have hsz := HSB.out HA.out q hqr
      have HT1 := hid (HTS.out q hqr)
      have hx := HX25.out.below HST.out.2.2 (by omega)
      have d0 := hx.cell 0 rfl
      have d1 := hx.cell 1 rfl
      have d2 := hx.cell 2 rfl
      clear hx
      generalize txtR (rowAt ys (alignL xs ys) q) = x at *
      have hcq : (F x).getD 0 ≤ 4096 := by
       rw [HST.out.2.1 x]
       have h2 := cntL_le (TB.take q) x
       have h3 : (TB.take q).length ≤ q := List.length_take_le _ _
       omega
      go_wp2_with fail
      with_reducible refine HTX.out.mono ?_
      clear d0 d1 d2
      rintro e w8 ⟨rfl, hb8⟩
      have HM8 := hid (HST.out.1.later (hb8.block mb hmbl))
      have HB8 := hid (HST.out.2.2.trans (hb8.mono (by omega)))
      have hlk := HM8.out.look hsz
      have HKEY := hid (key_str hsz)
      obtain ⟨D, hown, hno⟩ := HM8.out
      have HNO := hid hno
      have HOWN := hid hown
      have HC := hid HST.out.2.1
      clear hown hno hb8 HM8 HST HTX
      generalize hkx : (F x).getD 0 = kx at *
      have HKX := hid hkx
      clear hkx
      go_wp2_with (at_mapUpdate; refine wpList_mapUpdate_own _ rfl _ _ _ 97 rfl 9 3 law_strU Tryz.underlying97 _ mb q D rfl HOWN.out (by unfold maxLen; omega) _ _ _ rfl rfl HKEY.out _ [] (plainElem_int (H := Unit) Tryz.underlying3 (wf_small1 (by omega))) ?_; intro w9 hown9 hgrow9; have HOWN9 := hid hown9; have HGR9 := hid hgrow9; clear hown9 hgrow9)
      have HB9 := hid (HB8.out.grown HGR9.out (by have := HB8.out.size; omega) (fun k hk => by have := Option.some.inj hk; omega))
      have HF9 : Hid (∀ s, (setF1 F x (kx + 1) s).getD 0 = cntL (TB.take (q + 1)) s) := hid (fun s => by
       rw [HT1.out, cntL_append, ← HC.out s, cntL_cons]
       unfold setF1
       by_cases e : s = x
       ·rw [if_pos e, if_pos e.symm, e, HKX.out]
        simp [cntL]
       ·rw [if_neg e, if_neg (fun h => e h.symm)]
        simp [cntL])
      go_wp2_with fail
      go_roundg (gk - 1)
      case rel => exact ⟨q + 1, setF1 F x (kx + 1), by omega, by go_num, hid ⟨⟨_, HOWN9.out, HNO.out.put x (kx + 1)⟩, HF9.out, HB9.out⟩⟩
      case measure => omega
     ·obtain rfl : q = rb := by omega
      have HTAL : Hid (TB.take q = TB) := hid (by rw [← HTL.out, List.take_length])
      rw [HTAL.out] at HST
      have hx := HX15.out.below HST.out.2.2 (by omega)
      have c0 := hx.cell 0 rfl
      have c1 := hx.cell 1 rfl
      have c2 := hx.cell 2 rfl
      clear hx
      go_wp2_with fail
      with_reducible refine (HR1.out _ HBW.out).mono ?_
      clear c0 c1 c2
      rintro e w8 ⟨rfl, hb8⟩
      have HM8 := hid (HST.out.1.later (hb8.block mb hmbl))
      have HB58 := hid (HST.out.2.2.trans (hb8.mono (by omega)))
      have HC8 := hid HST.out.2.1
      have hz8 := hb8.size
      clear hb8 HST
      go_wp2_with fail
      subst hLC
      have HTX := hid (fun i (hi : i < ra) => txtsR_at (xs := xs) (al := ownL xs) hi)
      have HTXL := hid (txtsR_len xs (ownL xs) ra)
      generalize hTA : txtsR xs (ownL xs) ra = TA at *
      clear hTA
      go_loopg [12, 60] ra (fun N v i wr => ∃ (j n' : Nat) (F : ByteArray → Option Nat) (Rm : List ByteArray), j + N = ra ∧ i = .int .i64 (j : Int) ∧ v = .int .i64 (n' : Int) ∧ n' ≤ j ∧ Hid (MapI wr mb (q + n') F ∧ (∀ s, (F s).getD 0 = cntL Rm s) ∧ Rm.length ≤ q ∧ comL TA TB = n' + comL (TA.drop j) Rm ∧ Below mb w5 wr))
      case atStart => exact ⟨0, 0, F, TB, by omega, rfl, rfl, Nat.le_refl _, hid ⟨HM8.out, HC8.out, Nat.le_of_eq HTL.out, by rw [List.drop_zero, Nat.zero_add], HB58.out⟩⟩
      case round =>
       obtain ⟨j, n', F', Rm, hj, rfl, rfl, hn', HS3⟩ := hrel
       have HBW3 := hid (HB5.out.trans (HS3.out.2.2.2.2.mono hz5w))
       have hzr3 := HS3.out.2.2.2.2.size
       have hmbl3 := HS3.out.1.lt
       by_cases hp3 : 0 < gk
       ·have hjr : j < ra := by omega
        have HTXJ := hid (HTA.out j hjr (.slice (some ⟨ob, 0, none⟩) l0 l0) mb wr (by have h := HOI.out wr HS3.out.2.2.2.2; exact h) (by omega) (by omega) HBW3.out)
        have hsz := HSA.out j hjr
        have HXJ := hid (HTX.out j hjr)
        have hx := HX15.out.below HS3.out.2.2.2.2 (by omega)
        have d0 := hx.cell 0 rfl
        have d1 := hx.cell 1 rfl
        have d2 := hx.cell 2 rfl
        clear hx
        generalize txtR (rowAt xs (ownL xs) j) = x at *
        have hcq : (F' x).getD 0 ≤ 4096 := by
         rw [HS3.out.2.1 x]
         have h2 := cntL_le Rm x
         have h3 := HS3.out.2.2.1
         omega
        have HJL : Hid (j < TA.length) := hid (by rw [HTXL.out]; exact hjr)
        go_wp2_with fail
        with_reducible refine HTXJ.out.mono ?_
        clear d0 d1 d2
        rintro e w9 ⟨rfl, hb9⟩
        have HM9 := hid (HS3.out.1.later (hb9.block mb hmbl3))
        have HB9 := hid (HS3.out.2.2.2.2.trans (hb9.mono (by omega)))
        have HC9 := hid HS3.out.2.1
        have HRL := hid HS3.out.2.2.1
        have HCO := hid HS3.out.2.2.2.1
        have hlk := HM9.out.look hsz
        have HKEY := hid (key_str hsz)
        have HPS : Hid (0 < (F' x).getD 0 ↔ x ∈ Rm) := hid (by rw [HC9.out x]; exact cntL_pos)
        clear hb9 HS3 HTXJ
        generalize hkx : (F' x).getD 0 = kx at *
        have HKX := hid hkx
        clear hkx
        by_cases hk0 : 0 < kx
        ·obtain ⟨k1, rfl⟩ : ∃ k1, kx = k1 + 1 := ⟨kx - 1, by omega⟩
         have hxm := HPS.out.1 hk0
         have hk1 : ((k1 + 1 : Nat) : Int) - 1 = (k1 : Int) := by omega
         have hd0 : decide ((0 : Int) < ((k1 + 1 : Nat) : Int)) = true := decide_eq_true (by omega)
         obtain ⟨D, hown, hno⟩ := HM9.out
         have HNO := hid hno
         have HOWN := hid hown
         have HST' := hid (comL_step_yes HJL.out x HXJ.out HCO.out hxm)
         have HRE : Hid ((erL Rm x).length ≤ q) := hid (Nat.le_trans (erL_len Rm x) HRL.out)
         have HFE : Hid (∀ s, (setF1 F' x k1 s).getD 0 = cntL (erL Rm x) s) := hid (fun s => by
          have h2 := cntL_erase hxm s
          unfold setF1
          by_cases e : s = x
          ·rw [if_pos e]
           rw [if_pos e.symm, e, ← HC9.out x, HKX.out] at h2
           simp only [Option.getD_some]
           rw [e]
           omega
          ·rw [if_neg e, HC9.out s]
           rw [if_neg (fun h => e h.symm)] at h2
           omega)
         clear hown hno hxm hk0
         go_wp2_with (at_mapUpdate; refine wpList_mapUpdate_own _ rfl _ _ _ 97 rfl 9 3 law_strU Tryz.underlying97 _ mb (q + n') D rfl HOWN.out (by unfold maxLen; omega) _ _ _ rfl rfl HKEY.out _ [] (plainElem_int (H := Unit) Tryz.underlying3 (wf_small (k := k1) (by omega))) ?_; intro w10 hown10 hgrow10; have HOWN10 := hid hown10; have HGR10 := hid hgrow10; clear hown10 hgrow10)
         have HB10 := hid (HB9.out.grown HGR10.out (by have := HB9.out.size; omega) (fun k hk => by have := Option.some.inj hk; omega))
         go_wp2_with fail
         go_roundg (gk - 1)
         case rel => exact ⟨j + 1, n' + 1, setF1 F' x k1, erL Rm x, by omega, by go_num, by go_num, by omega, hid ⟨⟨_, HOWN10.out, HNO.out.put x k1⟩, HFE.out, HRE.out, HST'.out, HB10.out⟩⟩
         case measure => omega
        ·have hxm : x ∉ Rm := fun h => hk0 (HPS.out.2 h)
         have hd0 : decide ((0 : Int) < (kx : Int)) = false := decide_eq_false (by omega)
         have hd1 : decide (0 < kx) = false := decide_eq_false hk0
         have HST' := hid (comL_step_no HJL.out x HXJ.out HCO.out hxm)
         clear hxm
         go_wp2_with fail
         go_roundg (gk - 1)
         case rel => exact ⟨j + 1, n', F', Rm, by omega, by go_num, rfl, by omega, hid ⟨HM9.out, HC9.out, HRL.out, HST'.out, HB9.out⟩⟩
         case measure => omega
       ·obtain rfl : j = ra := by omega
        have HFI : Hid (R = n') := hid (by
         have h2 := HS3.out.2.2.2.1
         have h3 : TA.drop j = [] := List.drop_eq_nil_of_le (by rw [HTXL.out]; exact Nat.le_refl _)
         rw [h3, comL_nil] at h2
         have h4 := HCA.out
         omega)
        go_wp2
        go_ret2
        exact ⟨by rw [HFI.out]; rfl, HBW3.out⟩
end Go.Proofs.YthblaeleogdfpaaGreatDoor
