/- Contract of lists.Own: a copy of a table that shares nothing. Contract of explain.pick: a table with some of its rows, in new memory. -/
import Derived.Test.YtfmlpaplnkohpaaGreatDoorLnRtan
import Derived.Laws.OwnMore
import Derived.Deep.RegionHeld3
set_option linter.unusedVariables false
set_option linter.unusedSimpArgs false
namespace Go.Proofs.YtfmlpaplnkohpaaGreatDoor
open Go.RowKit

theorem flat_set1 (n : Nat) (f f' : Nat → Nat → Value) (i : Nat) (hi : i < n) (u : Value) (h0 : f' i 0 = f i 0) (h1 : f' i 1 = u) (hf : ∀ k, k ≠ i → f' k = f k) : (flatK 2 n f).set (i * 2 + 1) u = flatK 2 n f' := by
  apply List.ext_getElem?
  intro m
  by_cases hm : m < n * 2
  · have e : m = m / 2 * 2 + m % 2 := by omega
    have hk : m / 2 < n := by omega
    have a1 := flatK_at (k := 2) (f := f') hk (Nat.mod_lt m (by omega))
    have a2 := flatK_at (k := 2) (f := f) hk (Nat.mod_lt m (by omega))
    rw [← e] at a1 a2
    rw [a1, List.getElem?_set]
    by_cases hmi : i * 2 + 1 = m
    · have e2 : m / 2 = i := by omega
      have e3 : m % 2 = 1 := by omega
      rw [if_pos hmi, if_pos (by rw [flatK_len]; omega), e2, e3, h1]
    · rw [if_neg hmi, a2]
      by_cases hki : m / 2 = i
      · have e3 : m % 2 = 0 := by omega
        rw [hki, e3, h0]
      · rw [hf _ hki]
  · rw [List.getElem?_eq_none (by rw [List.length_set, flatK_len]; omega), List.getElem?_eq_none (by rw [flatK_len]; omega)]
/-- own columns, the first q of which have cells in own memory -/
structure OwnAt (W : World) (base : Nat) (e : TypeId) (v : Value) (L q : Nat) (xs : List Co) (cw cv : Nat → Value) : Prop where
  row : W.ownsRow base e 2 v L (flatK 2 L (coF xs cw))
  low : base ≤ W.heap.size
  kids : ∀ i, i < q → RdCl W (Own W base v) (cw i) (xs.getD i Co.z).cells
  rest : ∀ i, q ≤ i → cw i = cv i
section
variable {W W' : World} {base : Nat} {e : TypeId} {v : Value} {L q : Nat} {xs : List Co} {cw cv : Nat → Value}
theorem OwnAt.later (h : OwnAt W base e v L q xs cw cv) (hb : Below W.heap.size W W') : OwnAt W' base e v L q xs cw cv :=
  ⟨own_later h.row hb, Nat.le_trans h.low hb.size, fun i hi => ((h.kids i hi).keep fun p hp => hb.cell (p := p) hp.2.1).more fun b hb' => ⟨hb'.1, Nat.lt_of_lt_of_le hb'.2.1 hb.size, hb'.2.2⟩, h.rest⟩
theorem OwnAt.put {g cap : Nat} (h : OwnAt W base e (.slice (some ⟨g, 0, none⟩) L cap) L q xs cw cv) (hq : q < L) {z : Value} {ys : List Co} (hy : ys.getD q Co.z = ⟨(xs.getD q Co.z).name, (ys.getD q Co.z).cells⟩) (hyo : ∀ i, i ≠ q → ys.getD i Co.z = xs.getD i Co.z)
    (hz : RdCl W (fun b => base ≤ b ∧ b < W.heap.size ∧ b ≠ g) z (ys.getD q Co.z).cells) :
    OwnAt (W.setCell ⟨g, q * 2 + 1, none⟩ z) base e (.slice (some ⟨g, 0, none⟩) L cap) L (q + 1) ys (fun i => if i = q then z else cw i) cv := by
  have hc : ∀ p : Addr, p.block ≠ g → (W.setCell ⟨g, q * 2 + 1, none⟩ z).cell? p = W.cell? p := fun p hp => World.cell?_setCell_other _ _ _ _ (by intro e; subst e; exact hp rfl)
  refine ⟨?_, by simpa using h.low, fun i hi => ?_, fun i hi => ?_⟩
  · rw [← flat_set1 L (coF xs cw) _ q hq z ?_ ?_ ?_]
    · exact (h.row.stored (q * 2 + 1) z).1
    · simp only [coF, two]
      rw [hy]
    · simp [coF, two]
    · intro k hk
      simp only [coF, if_neg hk]
      rw [hyo k hk]
  · by_cases hiq : i = q
    · subst hiq
      rw [if_pos rfl]
      refine (hz.keep fun p hp => hc p hp.2.2).more fun b hb => ⟨hb.1, by simpa using hb.2.1, fun e => hb.2.2 ?_⟩
      simp only [Value.ownBlock, Option.some.injEq] at e
      exact e.symm
    · rw [if_neg hiq, hyo i hiq]
      refine ((h.kids i (by omega)).keep fun p hp => hc p fun e => hp.2.2 ?_).more fun b hb => ⟨hb.1, by simpa using hb.2.1, hb.2.2⟩
      rw [e]
      rfl
  · rw [if_neg (by omega)]
    exact h.rest i (by omega)
theorem OwnAt.done (h : OwnAt W base e v L L xs cw cv) (hl : L = xs.length) : CoSt W base e v xs := by
  subst hl
  exact ⟨cw, h.row, h.low, h.kids⟩
end
theorem ycells {g cap L : Nat} {W : World} {base : Nat} {e : TypeId} {f : Nat → Nat → Value} (h : W.ownsRow base e 2 (.slice (some ⟨g, 0, none⟩) L cap) L (flatK 2 L f)) {i : Nat} (hi : i < L) :
    W.cell? ⟨g, i * 2, none⟩ = some (f i 0) ∧ W.cell? ⟨g, i * 2 + 1, none⟩ = some (f i 1) := by
  refine ⟨?_, ?_⟩
  · rw [h.cellAt _ (by omega)]
    exact flatK_at (j := 0) hi (by omega)
  · rw [h.cellAt _ (by omega)]
    exact flatK_at (j := 1) hi (by omega)
theorem rdCl_own {w : World} {base : Nat} {e : TypeId} {v : Value} {cs : List Cl} (h : w.ownsRow base e 2 v cs.length (flatK 2 cs.length (clF cs))) : RdCl w (fun b => base ≤ b ∧ b < w.heap.size) v cs := rdCl_of_own h

set_option maxRecDepth 100000 in
set_option maxHeartbeats 4000000 in
theorem lists_Own (id : Int) (nm : ByteArray) (v : Value) (xs : List Co) (B : Nat) (w : World) (hv : RdCo w (· < B) v xs) (hB : B ≤ w.heap.size) (hl : xs.length ≤ 1048576) (hc : ∀ x ∈ xs, x.cells.length ≤ 1048576) :
    Calls Tryz.prog 45 #[.agg #[.int .i64 id, .string nm, v]] w (NewT w id nm xs) := by
  obtain ⟨cv, hcv, hcl⟩ := hv
  have HCL := hid hcl
  have h1 : ∀ i, i < xs.length → ∀ j, j < 2 → (coF xs cv i j).oneCell' = true := fun i hi j hj => by
    rcases (show j = 0 ∨ j = 1 by omega) with rfl | rfl
    · rfl
    · obtain ⟨a, c, e, -⟩ := hcl i hi
      show (cv i).oneCell' = true
      rw [e]
      rfl
  have HK1 := hid (fun W (hW : Below w.heap.size w W) => clone_cols (· < B) v xs.length (coF xs cv) W (hcv.keep fun p (hp : p.block < B) => hW.cell (p := p) (by omega)) (fun b (hb : b < B) => by have := hW.size; omega) h1 (by omega))
  have HK2 := hid (fun q (hq : q < xs.length) W (hW : Below w.heap.size w W) => clone_cells (· < B) (cv q) (xs.getD q Co.z).cells.length (clF (xs.getD q Co.z).cells) W ((hcl q hq).keep fun p (hp : p.block < B) => hW.cell (p := p) (by omega)) (fun b (hb : b < B) => by have := hW.size; omega) (fun i _ j hj => by
    rcases (show j = 0 ∨ j = 1 by omega) with rfl | rfl <;> rfl) (by have := hc _ (getD_mem hq Co.z); omega))
  obtain ⟨va, vc, rfl, hvc, hvm, -⟩ := hcv
  clear hcl h1 hc
  unfold maxLen at hvm
  generalize hxl : xs.length = L at *
  have HXL := hid hxl
  clear hxl
  have HX0 := hid ((BoxN.new w #[.int .i64 id, .string nm, .slice va L vc] 29).alloc (.cells #[.int .i64 0, .string ⟨#[]⟩, .slice none 0 0] 29))
  have hy0 := BoxN.new (w.alloc (.cells #[.int .i64 id, .string nm, .slice va L vc] 29)) #[.int .i64 0, .string ⟨#[]⟩, .slice none 0 0] 29
  rw [World.size_alloc] at hy0
  have HY0 := hid hy0
  have HB0 := hid (((Below.refl w.heap.size w).alloc (Nat.le_refl _) (.cells #[.int .i64 id, .string nm, .slice va L vc] 29)).alloc (by simp) (.cells #[.int .i64 0, .string ⟨#[]⟩, .slice none 0 0] 29))
  have hz0' : ((w.alloc (.cells #[.int .i64 id, .string nm, .slice va L vc] 29)).alloc (.cells #[.int .i64 0, .string ⟨#[]⟩, .slice none 0 0] 29)).heap.size = w.heap.size + 2 := by simp
  have x2 := HX0.out.cell 2 rfl
  clear hy0
  go_enter Tryz.func45, Tryz.ntmps45
  generalize hLA : Code.loop _ = LA
  go_wp2_with fail
  generalize (w.alloc (.cells #[.int .i64 id, .string nm, .slice va L vc] 29)).alloc (.cells #[.int .i64 0, .string ⟨#[]⟩, .slice none 0 0] 29) = W0 at *
  with_reducible refine (HK1.out W0 HB0.out).mono ?_
  rintro e w1 ⟨a1, c1, rfl, hown1, hb1⟩
  have hz1' := hb1.size
  have HB1 := hid (HB0.out.trans (hb1.mono (by omega)))
  have HX1 := hid (HX0.out.below hb1 (by omega))
  have HY1 := hid (HY0.out.below hb1 (by omega))
  have HX2 := hid (HX1.out.set 2 (.slice a1 L c1))
  have HY2 := hid (HY1.out.other (p := ⟨w.heap.size, 2, none⟩) (by show w.heap.size ≠ w.heap.size + 1; omega) (.slice a1 L c1))
  have HB2 := hid (HB1.out.setCell (p := ⟨w.heap.size, 2, none⟩) (Nat.le_refl _) (.slice a1 L c1))
  have HO2 : Hid (OwnAt (w1.setCell ⟨w.heap.size, 2, none⟩ (.slice a1 L c1)) W0.heap.size 39 (.slice a1 L c1) L 0 xs cv cv) := hid ⟨ownsRow_setCell_below hown1 (by show w.heap.size < W0.heap.size; omega) _, by simp; omega, fun i hi => absurd hi (by omega), fun i _ => rfl⟩
  have hz2' : (w1.setCell ⟨w.heap.size, 2, none⟩ (.slice a1 L c1)).heap.size = w1.heap.size := by simp
  clear x2 hb1 hown1 HK1
  have x2 := HX1.out.cell 2 rfl
  have xf2 := HX1.out.frozen 2
  have y2 := HX2.out.cell 2 rfl
  go_wp2_with fail
  generalize w1.setCell ⟨w.heap.size, 2, none⟩ (.slice a1 L c1) = W2 at *
  subst hLA
  clear x2 xf2 y2 HX1 HY1
  go_loopg [12] L (fun N i wr => ∃ (q : Nat) (cw : Nat → Value), i = .int .i64 (q : Int) ∧ q + N = L ∧ Hid (Below w.heap.size w wr) ∧ Hid (BoxN wr w.heap.size 29 #[.int .i64 id, .string nm, .slice a1 L c1]) ∧ Hid (BoxN wr (w.heap.size + 1) 29 #[.int .i64 0, .string ⟨#[]⟩, .slice none 0 0]) ∧ Hid (OwnAt wr W0.heap.size 39 (.slice a1 L c1) L q xs cw cv))
  case atStart => exact ⟨0, cv, rfl, by omega, HB2, HX2, HY2, HO2⟩
  case round =>
    obtain ⟨q, cw, rfl, hq, HB, HX, HY, HO⟩ := hrel
    have hlo := HO.out.low
    by_cases hp : 0 < gk
    · have hqL : q < L := by omega
      obtain ⟨g, cap, hg, hgb, hglt⟩ := HO.out.row.form (by omega)
      obtain ⟨rfl, -, rfl⟩ := Value.slice.inj hg
      clear hg
      obtain ⟨k0, k1⟩ := ycells HO.out.row hqL
      have hrest := HO.out.rest q (Nat.le_refl _)
      simp only [coF, two] at k0 k1
      rw [hrest] at k1
      have HK2q := hid (HK2.out q hqL)
      obtain ⟨ca, ck, hcq, -, -, -⟩ := HCL.out q hqL
      rw [hcq] at k1 HK2q
      have HGC := hid hcq
      have hx2 := HX.out.cell 2 rfl
      have HOC := hid ((HO.out.later ((Below.refl _ _).alloc (Nat.le_refl _) (.cells #[.string (xs.getD q Co.z).name, .slice ca (xs.getD q Co.z).cells.length ck] 39))))
      have HCB := hid (BoxN.new wr #[.string (xs.getD q Co.z).name, .slice ca (xs.getD q Co.z).cells.length ck] 39)
      have HXC := hid (HX.out.alloc (.cells #[.string (xs.getD q Co.z).name, .slice ca (xs.getD q Co.z).cells.length ck] 39))
      have HYC := hid (HY.out.alloc (.cells #[.string (xs.getD q Co.z).name, .slice ca (xs.getD q Co.z).cells.length ck] 39))
      have HBC := hid (HB.out.alloc (by omega) (.cells #[.string (xs.getD q Co.z).name, .slice ca (xs.getD q Co.z).cells.length ck] 39))
      have hzc : (wr.alloc (.cells #[.string (xs.getD q Co.z).name, .slice ca (xs.getD q Co.z).cells.length ck] 39)).heap.size = wr.heap.size + 1 := by simp
      clear hcq
      have hnn : ∃ nn, nn = (xs.getD q Co.z).cells.length := ⟨_, rfl⟩
      obtain ⟨nn, hnn⟩ := hnn
      rw [← hnn] at k1 HK2q HOC HCB HXC HYC HBC hzc HGC
      have HNN := hid hnn
      clear hnn
      generalize (xs.getD q Co.z).name = xn at *
      go_upto_region 5 with fail
      generalize wr.alloc (.cells #[.string xn, .slice ca nn ck] 39) = W4 at *
      have HG := hid (fun W (hW : Below W4.heap.size W4 W) => (⟨(HXC.out.below hW HXC.out.lt).cell 2 rfl, (HCB.out.below hW HCB.out.lt).cell 1 rfl⟩ : W.cell? ⟨w.heap.size, 2, none⟩ = some (.slice (some ⟨g, 0, none⟩) L c1) ∧ W.cell? ⟨wr.heap.size, 1, none⟩ = some (.slice ca nn ck)))
      have HDR : Hid (Below W4.heap.size W4 W4.drew) := hid (Below.refl W4.heap.size W4).drew
      have HQ4 := hid (fun W (hW : Below W4.heap.size W4 W) => HK2q.out W (HBC.out.trans (hW.mono (by omega))))
      clear k0 k1 hx2 HK2q
      go_region_held3 (fun w' => w'.cell? ⟨w.heap.size, 2, none⟩ = some (.slice (some ⟨g, 0, none⟩) L c1) ∧ w'.cell? ⟨wr.heap.size, 1, none⟩ = some (.slice ca nn ck))
        (first | exact HG.out _ (Below.refl _ _) | exact HG.out _ HDR.out | exact HG.out _ HC5.out | ((repeat rw [World.cell?_setCell_other _ _ _ _ (by intro e; injection e with e; omega)]); exact HG.out _ HC5.out) | go_keep)
        ((go_at_call 84; go_must ((with_reducible refine (HQ4.out _ HDR.out).mono ?_); rintro e w5 ⟨a5, c5, rfl, hown5, hb5⟩; have HC5 : Hid (Below W4.heap.size W4 w5) := hid (HDR.out.trans (hb5.mono (Nat.le_refl _))); have HOWN5 := hid hown5; have HO5 := hid (HOC.out.later HC5.out); have q5 := (ycells HO5.out.row hqL).2; have fq5 := HO5.out.row.frozenAt (q * 2 + 1); clear hb5 hown5)))
      all_goals
        have hz5 := HC5.out.size
        have hgw := HO.out.row.lt g rfl
        have hnew : RdCl w5 (fun b => W0.heap.size ≤ b ∧ b < w5.heap.size ∧ b ≠ g) (.slice a5 nn c5) (xs.getD q Co.z).cells := by
          have h5 := HOWN5.out
          rw [HNN.out] at h5 ⊢
          exact (rdCl_of_own h5).more fun b hb => ⟨by have := hb.1; simp at this; omega, hb.2, by have := hb.1; simp at this; omega⟩
        have HPUT := hid (HO5.out.put (ys := xs) hqL rfl (fun _ _ => rfl) hnew)
        clear hnew q5 fq5
        go_wp2
        go_roundg (gk - 1)
        case rel => exact ⟨q + 1, _, by go_num, by omega, hid ((HBC.out.trans (HC5.out.mono (by omega))).setCell (by show w.heap.size ≤ g; omega) _), hid ((HXC.out.below HC5.out HXC.out.lt).other (by show g ≠ w.heap.size; omega) _), hid ((HYC.out.below HC5.out HYC.out.lt).other (by show g ≠ w.heap.size + 1; omega) _), HPUT⟩
        case measure => omega
    · obtain rfl : gk = 0 := by omega
      obtain rfl : q = L := by omega
      have x0 := HX.out.cell 0 rfl
      have x1 := HX.out.cell 1 rfl
      have x2 := HX.out.cell 2 rfl
      have y0 := HY.out.cell 0 rfl
      have y1 := HY.out.cell 1 rfl
      have y2 := HY.out.cell 2 rfl
      have f0 := HY.out.frozen 0
      have f1 := HY.out.frozen 1
      have f2 := HY.out.frozen 2
      go_wp2
      refine bodyPost_ret (v := .agg #[.int .i64 id, .string nm, .slice a1 q c1]) (by simp [results, Tryz.results45, go_sem, y0, y1, y2]) rfl ⟨_, rfl, ?_, by have := HB.out; repeat' (first | (with_reducible exact Below.refl _ _) | (with_reducible assumption) | (with_reducible refine below_drewN ?_) | (with_reducible refine Below.alloc ?_ ?_ _) | (with_reducible refine Below.drew ?_) | (with_reducible refine Below.setCell ?_ ?_ _) | (with_reducible refine Below.trans ?_ (Below.mono (by with_reducible assumption) ?_)) | go_size)⟩
      have hdone := HO.out.done HXL.out.symm
      exact (((hdone.setCell (p := ⟨w.heap.size + 1, 0, none⟩) (by show w.heap.size + 1 < W0.heap.size; omega) _).setCell (p := ⟨w.heap.size + 1, 1, none⟩) (by show w.heap.size + 1 < W0.heap.size; omega) _).setCell (p := ⟨w.heap.size + 1, 2, none⟩) (by show w.heap.size + 1 < W0.heap.size; omega) _).lower (by omega)
end Go.Proofs.YtfmlpaplnkohpaaGreatDoor

namespace Go.Proofs.YtfmlpaplnkohpaaGreatDoor
open Go.RowKit

theorem made_cellsM (n : Nat) (h : n ≤ 1048576) (w : World) :
    (Instr.makeSlice 37 (.int .i64 (n : Int)) (.int .i64 (n : Int))).run Tryz.prog w = .ok (.slice (some ⟨w.heap.size, 0, none⟩) n n) (w.alloc (.cells (madeCells #[.bool false, .string ⟨#[]⟩] (n * 2)) 42)) := by
  obtain ⟨i, hi, hz, hs, hb⟩ := info_parts info_cell
  have hr := run_make (P := Tryz.prog) w 37 42 i _ Tryz.underlying37 hi hz .i64 .i64 n n (by omega) (Int.le_refl _) (by rw [hb]; omega) (by omega)
  simp only [Int.toNat_natCast, hs, Value.cells] at hr
  exact hr
/-- cells that are filled: the first q -/
def fillC (pl : List Cl) (q idx : Nat) : Value := if idx < q * 2 then clF pl (idx / 2) (idx % 2) else clF [] 0 (idx % 2)
theorem fillC_made (pl : List Cl) (w : World) (n : Nat) (t : TypeId) : (w.alloc (.cells (madeCells #[.bool false, .string ⟨#[]⟩] (n * 2)) t)).rowIs w.heap.size t (n * 2) (fillC pl 0) := by
  have h := World.rowIs_alloc w (madeCells #[.bool false, .string ⟨#[]⟩] (n * 2)) t (fillC pl 0) (fun i hi => by
    rw [size_madeCells] at hi
    unfold fillC
    rw [if_neg (by omega)]
    rcases (show i % 2 = 0 ∨ i % 2 = 1 by omega) with e | e <;> simp [madeCells, hi, e, clF, two, Cl.z])
  rwa [size_madeCells] at h
theorem fillC_step {w : World} {b m q : Nat} {t : TypeId} {pl : List Cl} (h : w.rowIs b t (m * 2) (fillC pl q)) {c : Cl} (hc : pl.getD q Cl.z = c) :
    ((w.setCell ⟨b, q * 2, none⟩ (.bool c.null)).setCell ⟨b, q * 2 + 1, none⟩ (.string c.text)).rowIs b t (m * 2) (fillC pl (q + 1)) := by
  refine ((h.set (q * 2) _).set (q * 2 + 1) _).congr fun j hj => ?_
  unfold fillC
  by_cases e1 : j = q * 2 + 1
  · rw [if_pos e1, if_pos (by omega), show j / 2 = q by omega, show j % 2 = 1 by omega, ← hc]
    rfl
  · rw [if_neg e1]
    by_cases e0 : j = q * 2
    · rw [if_pos e0, if_pos (by omega), show j / 2 = q by omega, show j % 2 = 0 by omega, ← hc]
      rfl
    · rw [if_neg e0]
      by_cases h2 : j < q * 2
      · rw [if_pos h2, if_pos (by omega)]
      · rw [if_neg h2, if_neg (by omega)]
theorem fillC_done {w : World} {b : Nat} {t : TypeId} {pl : List Cl} {m : Nat} (hm : m = pl.length) (h : w.rowIs b t (m * 2) (fillC pl m)) (hl : m ≤ maxLen) : RdCl w (· = b) (.slice (some ⟨b, 0, none⟩) m m) pl := by
  subst hm
  refine ⟨_, _, rfl, Nat.le_refl _, hl, fun _ => ⟨b, 0, rfl, rfl, fun i hi j hj => ?_⟩⟩
  rw [show 0 + i * 2 + j = i * 2 + j by omega, h.cell (i := i * 2 + j) (by omega)]
  unfold fillC
  rw [if_pos (by omega), show (i * 2 + j) / 2 = i by omega, show (i * 2 + j) % 2 = j by omega]
/-- the first q columns have the rows rs, the others all rows -/
def mixC (xs : List Co) (rs : List Nat) (q : Nat) : List Co := selL (xs.take q) rs ++ xs.drop q
theorem mix_at {xs : List Co} {rs : List Nat} {q i : Nat} (hq : q ≤ xs.length) : (mixC xs rs q).getD i Co.z = if i < q then pickC (xs.getD i Co.z) rs else xs.getD i Co.z := by
  unfold mixC selL
  by_cases h : i < q
  · rw [if_pos h, List.getD_eq_getElem?_getD, List.getElem?_append_left (by simp; omega)]
    simp [List.getD, h, show i < xs.length by omega]
  · rw [if_neg h, List.getD_eq_getElem?_getD, List.getElem?_append_right (by simp; omega)]
    simp only [List.length_map, List.length_take, List.getElem?_drop]
    rw [show q + (i - min q xs.length) = i by omega]
    rfl
theorem mix_zero (xs : List Co) (rs : List Nat) : mixC xs rs 0 = xs := by simp [mixC, selL]
theorem mix_all (xs : List Co) (rs : List Nat) : mixC xs rs xs.length = selL xs rs := by simp [mixC]

set_option maxRecDepth 100000 in
set_option maxHeartbeats 4000000 in
theorem expl_pick (id : Int) (nm : ByteArray) (v u : Value) (xs : List Co) (rs : List Nat) (B n : Nat) (w : World) (hv : RdCo w (· < B) v xs) (hu : Rd w B u rs.length (natF rs)) (hB : B ≤ w.heap.size) (hl : xs.length ≤ 1048576) (hc : ∀ x ∈ xs, x.cells.length = n) (hn : n ≤ 1048576) (hrs : ∀ r ∈ rs, r < n) (hrl : rs.length ≤ 1048576) :
    Calls Tryz.prog 118 #[.agg #[.int .i64 id, .string nm, v], u] w (NewT w id nm (selL xs rs)) := by
  have HOW := hid (fun W (hW : Below w.heap.size w W) => lists_Own id nm v xs B W (hv.keep fun p (hp : p.block < B) => hW.cell (p := p) (by omega)) (Nat.le_trans hB hW.size) hl (fun x hx => by rw [hc x hx]; omega))
  have HRS := hid (fun q (hq : q < rs.length) => hrs _ (getD_mem hq 0))
  obtain ⟨cv, hcv, hcl⟩ := hv
  obtain ⟨va, vc, rfl, hvc, hvm, hr⟩ := hcv
  obtain ⟨ua, uc, rfl, huc, hum, hur⟩ := hu
  have HR := hid hr
  have HCL := hid hcl
  have HUR := hid hur
  have HC := hid (fun q (hq : q < xs.length) => hc _ (getD_mem hq Co.z))
  have HMX := hid (fun q i (hq : q ≤ xs.length) => @mix_at xs rs q i hq)
  have HM0 := hid (mix_zero xs rs)
  have HML := hid (mix_all xs rs)
  have HSL := hid (selL_len xs rs)
  clear hr hcl hur hc hrs
  unfold maxLen at hvm hum
  generalize hml : rs.length = m at *
  have HRL := hid hml
  clear hml
  generalize hxl : xs.length = L at *
  have HXL := hid hxl
  clear hxl
  have hmk := made_cellsM m hrl
  have HX0 := hid ((BoxN.new w #[.int .i64 id, .string nm, .slice va L vc] 29).alloc (.cells #[.int .i64 0, .string ⟨#[]⟩, .slice none 0 0] 29))
  have hy0 := BoxN.new (w.alloc (.cells #[.int .i64 id, .string nm, .slice va L vc] 29)) #[.int .i64 0, .string ⟨#[]⟩, .slice none 0 0] 29
  rw [World.size_alloc] at hy0
  have HY0 := hid hy0
  have HB0 := hid (((Below.refl w.heap.size w).alloc (Nat.le_refl _) (.cells #[.int .i64 id, .string nm, .slice va L vc] 29)).alloc (by simp) (.cells #[.int .i64 0, .string ⟨#[]⟩, .slice none 0 0] 29))
  have hz0' : ((w.alloc (.cells #[.int .i64 id, .string nm, .slice va L vc] 29)).alloc (.cells #[.int .i64 0, .string ⟨#[]⟩, .slice none 0 0] 29)).heap.size = w.heap.size + 2 := by simp
  have x0 := HX0.out.cell 0 rfl
  have x1 := HX0.out.cell 1 rfl
  have x2 := HX0.out.cell 2 rfl
  clear hy0
  go_enter Tryz.func118, Tryz.ntmps118
  generalize hLA : Code.loop _ = LA
  go_wp2_with fail
  generalize (w.alloc (.cells #[.int .i64 id, .string nm, .slice va L vc] 29)).alloc (.cells #[.int .i64 0, .string ⟨#[]⟩, .slice none 0 0] 29) = W0 at *
  with_reducible refine (HOW.out W0 HB0.out).mono ?_
  rintro e w1 ⟨y, rfl, hco1, hb1⟩
  have hz1' := hb1.size
  have HB1 := hid (HB0.out.trans (hb1.mono (by omega)))
  have HX1 := hid (HX0.out.below hb1 (by omega))
  have HY1 := hid (HY0.out.below hb1 (by omega))
  obtain ⟨cv1, hco1⟩ := hco1
  have hrow1 := hco1.row
  rw [HXL.out] at hrow1
  have HO1 : Hid (OwnAt w1 W0.heap.size 39 y L 0 (mixC xs rs 0) cv1 cv1) := hid ⟨by rw [HM0.out]; exact hrow1, hco1.low, fun i hi => absurd hi (by omega), fun i _ => rfl⟩
  obtain ⟨a1, c1, rfl⟩ := own_slice hrow1
  have HGW : Hid (∀ k, (Value.slice a1 L c1).ownBlock = some k → k < w1.heap.size) := hid (fun k hk => (hrow1.lt k hk).2)
  clear x0 x1 x2 hb1 hco1 hrow1 HOW HM0
  have x2 := HX1.out.cell 2 rfl
  have hoz := BoxN.new w1 #[.int .i64 id, .string nm, .slice a1 L c1] 29
  have HQ2 := hid hoz
  have HX2 := hid (HX1.out.alloc (.cells #[.int .i64 id, .string nm, .slice a1 L c1] 29))
  have HY2 := hid (HY1.out.alloc (.cells #[.int .i64 id, .string nm, .slice a1 L c1] 29))
  have HB2 := hid (HB1.out.alloc (by omega) (.cells #[.int .i64 id, .string nm, .slice a1 L c1] 29))
  have HO2 := hid (HO1.out.later ((Below.refl _ _).alloc (Nat.le_refl _) (.cells #[.int .i64 id, .string nm, .slice a1 L c1] 29)))
  have hz2' : (w1.alloc (.cells #[.int .i64 id, .string nm, .slice a1 L c1] 29)).heap.size = w1.heap.size + 1 := by simp
  have p2 := HX2.out.cell 2 rfl
  clear hoz
  go_wp2_with fail
  generalize w1.alloc (.cells #[.int .i64 id, .string nm, .slice a1 L c1] 29) = W2 at *
  clear x2 p2
  subst hLA
  go_loopg [16] L (fun N i wr => ∃ (q : Nat) (cw : Nat → Value), i = .int .i64 (q : Int) ∧ q + N = L ∧ Hid (Below w.heap.size w wr) ∧ w1.heap.size < wr.heap.size ∧ Hid (BoxN wr (w.heap.size + 1) 29 #[.int .i64 0, .string ⟨#[]⟩, .slice none 0 0]) ∧ Hid (BoxN wr w1.heap.size 29 #[.int .i64 id, .string nm, .slice a1 L c1]) ∧ Hid (OwnAt wr W0.heap.size 39 (.slice a1 L c1) L q (mixC xs rs q) cw cv1))
  case atStart => exact ⟨0, cv1, rfl, by omega, HB2, by omega, HY2, HQ2, HO2⟩
  case round =>
    obtain ⟨q, cw, rfl, hq, HB, hlw, HY, HQ, HO⟩ := hrel
    have hlo := HO.out.low
    obtain ⟨wo, rfl⟩ : ∃ wo, wo = wr := ⟨wr, rfl⟩
    by_cases hp : 0 < gk
    · have hqL : q < L := by omega
      obtain ⟨g, cap, hg, hgb, hglt⟩ := HO.out.row.form (by omega)
      obtain ⟨rfl, -, rfl⟩ := Value.slice.inj hg
      clear hg
      obtain ⟨ba, oa, rfl, hba, hcella⟩ := HR.out (by omega)
      have hba' : ba < B := hba
      have k1 : wo.cell? ⟨ba, oa + q * 2, none⟩ = some (.string (xs.getD q Co.z).name) := (HB.out.cell (p := ⟨ba, oa + q * 2, none⟩) (by show ba < w.heap.size; omega)).trans (hcella q hqL 0 (by omega))
      have k2 : wo.cell? ⟨ba, oa + q * 2 + 1, none⟩ = some (cv q) := (HB.out.cell (p := ⟨ba, oa + q * 2 + 1, none⟩) (by show ba < w.heap.size; omega)).trans (hcella q hqL 1 (by omega))
      obtain ⟨ca, ck, hcq, -, hckm, hcr⟩ := HCL.out q hqL
      have hcn := HC.out q hqL
      rw [hcq, hcn] at k2
      rw [hcn] at hcr
      have HCR := hid hcr
      have HM1 : Hid ((mixC xs rs (q + 1)).getD q Co.z = pickC (xs.getD q Co.z) rs) := hid (by rw [HMX.out (q + 1) q (by omega), if_pos (by omega)])
      have HMN : Hid ((mixC xs rs q).getD q Co.z = xs.getD q Co.z) := hid (by rw [HMX.out q q (by omega), if_neg (by omega)])
      have HMO : Hid (∀ i, i ≠ q → (mixC xs rs (q + 1)).getD i Co.z = (mixC xs rs q).getD i Co.z) := hid (fun i hi => by
        rw [HMX.out (q + 1) i (by omega), HMX.out q i (by omega)]
        by_cases h : i < q
        · rw [if_pos h, if_pos (by omega)]
        · rw [if_neg h, if_neg (by omega)])
      clear hcella hcq hcr hcn
      generalize xs.getD q Co.z = x at *
      have HPL : Hid (∀ r, r < m → (pickC x rs).cells.getD r Cl.z = x.cells.getD (rs.getD r 0) Cl.z) := hid (fun r hr => by
        have hr' : r < rs.length := by rw [HRL.out]; exact hr
        simp [pickC, List.getD, hr'])
      have HPN : Hid ((pickC x rs).cells.length = m) := hid (by simp [pickC]; exact HRL.out)
      have HPX : Hid (pickC x rs = ⟨x.name, (pickC x rs).cells⟩) := hid rfl
      generalize pickC x rs = px at *
      obtain ⟨xn, xc⟩ := x
      simp only at k1 HCR HPL HPX
      have HCB := hid ((BoxN.new wo #[.string xn, .slice ca n ck] 39).alloc (.cells (madeCells #[.bool false, .string ⟨#[]⟩] (m * 2)) 42))
      have hfr := fillC_made px.cells (wo.alloc (.cells #[.string xn, .slice ca n ck] 39)) m 42
      rw [World.size_alloc] at hfr
      have HFR := hid hfr
      have HBO := hid ((((Below.refl wo.heap.size wo).alloc (Nat.le_refl _) (.cells #[.string xn, .slice ca n ck] 39))).alloc (by simp) (.cells (madeCells #[.bool false, .string ⟨#[]⟩] (m * 2)) 42))
      have hz5 : ((wo.alloc (.cells #[.string xn, .slice ca n ck] 39)).alloc (.cells (madeCells #[.bool false, .string ⟨#[]⟩] (m * 2)) 42)).heap.size = wo.heap.size + 2 := by simp
      clear hfr
      generalize hLC : Code.loop _ = LC
      go_wp2_with fail
      generalize (wo.alloc (.cells #[.string xn, .slice ca n ck] 39)).alloc (.cells (madeCells #[.bool false, .string ⟨#[]⟩] (m * 2)) 42) = W5 at *
      subst hLC
      clear k1 k2
      go_loopg [26] m (fun N i wr => ∃ (r : Nat), i = .int .i64 (r : Int) ∧ r + N = m ∧ Hid (Below wo.heap.size wo wr) ∧ wo.heap.size + 2 ≤ wr.heap.size ∧ Hid (BoxN wr wo.heap.size 39 #[.string xn, .slice ca n ck]) ∧ Hid (wr.rowIs (wo.heap.size + 1) 42 (m * 2) (fillC px.cells r)))
      case atStart => exact ⟨0, rfl, by omega, HBO, by omega, HCB, HFR⟩
      case round =>
        obtain ⟨r, rfl, hrq, HG, hlr, HCX, HF⟩ := hrel
        have HB5 := hid (HB.out.trans (HG.out.mono (by have := HB.out.size; omega)))
        by_cases hrp : 0 < gk
        · obtain ⟨b, o, rfl, hb, hcell⟩ := HUR.out (by omega)
          have hb' : b < B := hb
          have k0 : wr.cell? ⟨b, o + r, none⟩ = some (.int .i64 ((rs.getD r 0 : Nat) : Int)) := (HB5.out.cell (p := ⟨b, o + r, none⟩) (by show b < w.heap.size; omega)).trans (hcell r (by omega))
          have hlt := HRS.out r (by omega)
          have HPLr := hid (HPL.out r (by omega))
          clear hcell
          generalize rs.getD r 0 = rr at *
          have hlt' : (rr : Int) < (n : Int) := by omega
          obtain ⟨b2, o2, rfl, hb2, hcell2⟩ := HCR.out (by omega)
          have hb2' : b2 < B := hb2
          have m0 : wr.cell? ⟨b2, o2 + rr * 2, none⟩ = some (.bool (xc.getD rr Cl.z).null) := (HB5.out.cell (p := ⟨b2, o2 + rr * 2, none⟩) (by show b2 < w.heap.size; omega)).trans (hcell2 rr hlt 0 (by omega))
          have m1 : wr.cell? ⟨b2, o2 + rr * 2 + 1, none⟩ = some (.string (xc.getD rr Cl.z).text) := (HB5.out.cell (p := ⟨b2, o2 + rr * 2 + 1, none⟩) (by show b2 < w.heap.size; omega)).trans (hcell2 rr hlt 1 (by omega))
          clear hcell2
          generalize xc.getD rr Cl.z = cc at *
          have d1 := HCX.out.cell 1 rfl
          have s0 := HF.out.cell (i := r * 2) (by omega)
          have s1 := HF.out.cell (i := r * 2 + 1) (by omega)
          have sf0 := HF.out.frozen (r * 2)
          have sf1 := HF.out.frozen (r * 2 + 1)
          have hr1 : (r : Int) < (m : Int) := by omega
          go_wp2
          go_roundg (gk - 1)
          case rel => exact ⟨r + 1, by go_num, by omega, hid ((HG.out.setCell (by show wo.heap.size ≤ wo.heap.size + 1; omega) _).setCell (by show wo.heap.size ≤ wo.heap.size + 1; omega) _), by simp; omega, hid ((HCX.out.other (by show wo.heap.size + 1 ≠ wo.heap.size; omega) _).other (by show wo.heap.size + 1 ≠ wo.heap.size; omega) _), hid (fillC_step HF.out HPLr.out)⟩
          case measure => omega
        · obtain rfl : gk = 0 := by omega
          obtain rfl : r = m := by omega
          have HOr := hid (HO.out.later HG.out)
          have hnew : RdCl wr (fun b => W0.heap.size ≤ b ∧ b < wr.heap.size ∧ b ≠ g) (.slice (some ⟨wo.heap.size + 1, 0, none⟩) r r) ((mixC xs rs (q + 1)).getD q Co.z).cells := by
            rw [HM1.out]
            exact (fillC_done HPN.out.symm HF.out (by unfold maxLen; omega)).more fun b hb => by
              have hb' : b = wo.heap.size + 1 := hb
              subst hb'
              exact ⟨by omega, by omega, by omega⟩
          have HPUT := hid (HOr.out.put (ys := mixC xs rs (q + 1)) hqL (by rw [HM1.out, HMN.out]; exact HPX.out) HMO.out hnew)
          have q5 := (ycells HOr.out.row hqL).2
          have fq5 := HOr.out.row.frozenAt (q * 2 + 1)
          have HQr := hid (HQ.out.below HG.out HQ.out.lt)
          have o2 := HQr.out.cell 2 rfl
          have hgw := HO.out.row.lt g rfl
          have hgw1 := HGW.out g rfl
          have HYr := hid (HY.out.below HG.out HY.out.lt)
          clear hnew
          go_wp2
          go_roundg (gk - 1)
          case rel => exact ⟨q + 1, _, by go_num, by omega, hid (HB5.out.setCell (by show w.heap.size ≤ g; omega) _), by simp; omega, hid (HYr.out.other (by show g ≠ w.heap.size + 1; omega) _), hid (HQr.out.other (by show g ≠ w1.heap.size; omega) _), HPUT⟩
          case measure => omega
    · obtain rfl : gk = 0 := by omega
      obtain rfl : q = L := by omega
      have x0 := HQ.out.cell 0 rfl
      have x1 := HQ.out.cell 1 rfl
      have x2 := HQ.out.cell 2 rfl
      have y0 := HY.out.cell 0 rfl
      have y1 := HY.out.cell 1 rfl
      have y2 := HY.out.cell 2 rfl
      have f0 := HY.out.frozen 0
      have f1 := HY.out.frozen 1
      have f2 := HY.out.frozen 2
      go_wp2
      refine bodyPost_ret (v := .agg #[.int .i64 id, .string nm, .slice a1 q c1]) (by simp [results, Tryz.results118, go_sem, y0, y1, y2]) rfl ⟨_, rfl, ?_, by have := HB.out; repeat' (first | (with_reducible exact Below.refl _ _) | (with_reducible assumption) | (with_reducible refine below_drewN ?_) | (with_reducible refine Below.alloc ?_ ?_ _) | (with_reducible refine Below.drew ?_) | (with_reducible refine Below.setCell ?_ ?_ _) | (with_reducible refine Below.trans ?_ (Below.mono (by with_reducible assumption) ?_)) | go_size)⟩
      have hO := HO.out
      have hml := HML.out
      rw [hml] at hO
      have hdone := hO.done (by rw [HSL.out])
      exact (((hdone.setCell (p := ⟨w.heap.size + 1, 0, none⟩) (by show w.heap.size + 1 < W0.heap.size; omega) _).setCell (p := ⟨w.heap.size + 1, 1, none⟩) (by show w.heap.size + 1 < W0.heap.size; omega) _).setCell (p := ⟨w.heap.size + 1, 2, none⟩) (by show w.heap.size + 1 < W0.heap.size; omega) _).lower (by omega)
end Go.Proofs.YtfmlpaplnkohpaaGreatDoor
