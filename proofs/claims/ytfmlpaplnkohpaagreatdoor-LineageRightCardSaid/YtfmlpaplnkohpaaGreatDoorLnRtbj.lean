/- Contracts of table.with at the columns of a table, and of table.Find where the table is there. Contract of table.Find where the table is there. Contracts of lineage.right and lineage.Check, at links that are right. Contract of lineage.Check, at links that are right. -/
import Derived.Test.YtfmlpaplnkohpaaGreatDoorLnRtbi
import Derived.Test.YtfmlpaplnkohpaaGreatDoorLnRtbh
import Derived.Test.YtfmlpaplnkohpaaGreatDoorLnRtbd
import Derived.Test.YtfmlpaplnkohpaaGreatDoorLnRtbb
import Derived.Deep.RegionHeld3
import Derived.Deep.RegionLawGrows
set_option linter.unusedVariables false
set_option linter.unusedSimpArgs false
namespace Go.Proofs.YtfmlpaplnkohpaaGreatDoor
open Go.RowKit

set_option maxRecDepth 100000 in
set_option maxHeartbeats 4000000 in
theorem table_with (id : Int) (nm : ByteArray) (xs : List Co) (tb : Nat) (v : Value) (B : Nat) (w : World) (h2 : w.cell? ⟨tb, 2, none⟩ = some v) (hv : RdCo w (· < B) v xs) (hB : B ≤ w.heap.size) (hl : xs.length ≤ 1048576) (hc : ∀ x ∈ xs, x.cells.length ≤ 1048576) :
    Calls Tryz.prog 134 #[.agg #[.int .i64 id, .string nm, v], .int .i64 (xs.length : Int), .func (.func 135) #[] #[.pointer (some ⟨tb, 0, none⟩)]] w (NewT w id nm xs) := by
  have htl := World.block_lt_of_cell? _ _ h2
  have HGET := hid (fun q (hq : q < xs.length) W (hW : Below w.heap.size w W) => find_get xs q tb v B W hq ((hW.cell (p := ⟨tb, 2, none⟩) htl).trans h2) (hv.keep fun p (hp : p.block < B) => hW.cell (p := p) (by omega)) (Nat.le_trans hB hW.size) (hc _ (getD_mem hq Co.z)))
  obtain ⟨va, vc, rfl⟩ : ∃ a c, v = .slice a xs.length c := by
    obtain ⟨cv, ⟨a, c, e, -⟩, -⟩ := hv
    exact ⟨a, c, e⟩
  obtain ⟨i0, hi, hz0, hz1, hz2⟩ := info_parts info_col
  have HSN := hid (fun q (h : q < xs.length) => @take_snocC xs q h)
  clear hv hc h2
  generalize hxl : xs.length = L at *
  have HXL := hid hxl
  clear hxl
  go_enter Tryz.func134, Tryz.ntmps134
  generalize hLA : Code.loop _ = LA
  go_wp2_with fail
  have hy0 := (BoxN.new (w.alloc (.cells #[.int .i64 id, .string nm, .slice va L vc] 29)) #[.int .i64 0, .string ⟨#[]⟩, .slice none 0 0] 29).alloc (.cells #[.int .i64 id, .string nm, .slice none 0 0] 29)
  have ho0 := BoxN.new ((w.alloc (.cells #[.int .i64 id, .string nm, .slice va L vc] 29)).alloc (.cells #[.int .i64 0, .string ⟨#[]⟩, .slice none 0 0] 29)) #[.int .i64 id, .string nm, .slice none 0 0] 29
  rw [World.size_alloc] at hy0
  rw [World.size_alloc, World.size_alloc] at ho0
  have HY0 := hid hy0
  have HO0 := hid ho0
  have HB0 := hid ((((Below.refl w.heap.size w).alloc (Nat.le_refl _) (.cells #[.int .i64 id, .string nm, .slice va L vc] 29)).alloc (by simp) (.cells #[.int .i64 0, .string ⟨#[]⟩, .slice none 0 0] 29)).alloc (by simp; omega) (.cells #[.int .i64 id, .string nm, .slice none 0 0] 29))
  have hz0' : (((w.alloc (.cells #[.int .i64 id, .string nm, .slice va L vc] 29)).alloc (.cells #[.int .i64 0, .string ⟨#[]⟩, .slice none 0 0] 29)).alloc (.cells #[.int .i64 id, .string nm, .slice none 0 0] 29)).heap.size = w.heap.size + 3 := by simp
  clear hy0 ho0
  generalize ((w.alloc (.cells #[.int .i64 id, .string nm, .slice va L vc] 29)).alloc (.cells #[.int .i64 0, .string ⟨#[]⟩, .slice none 0 0] 29)).alloc (.cells #[.int .i64 id, .string nm, .slice none 0 0] 29) = W0 at *
  subst hLA
  go_loopg [15] L (fun N i wr => ∃ (q : Nat) (y : Value), i = .int .i64 (q : Int) ∧ q + N = L ∧ Hid (ToSt w W0 wr (w.heap.size + 2) W0.heap.size id nm y (xs.take q)))
  case atStart => exact ⟨0, .slice none 0 0, rfl, by omega, hid ⟨HB0.out, HO0.out, CoSt.start (Nat.le_refl _), Nat.le_refl _, fun _ _ _ => rfl⟩⟩
  case round =>
    obtain ⟨q, y, rfl, hq, HST⟩ := hrel
    have hlo := HST.out.low
    have HQL : Hid ((xs.take q).length = q) := hid (by rw [List.length_take]; have := HXL.out; omega)
    by_cases hp : 0 < gk
    · have hqL : q < L := by omega
      have HSNq := hid (HSN.out q hqL)
      obtain ⟨L0, hL0⟩ := HST.out.own.owns
      rw [HQL.out] at hL0
      obtain ⟨ya, yc, rfl⟩ := own_slice hL0
      have HL0 := hid hL0
      have HGQ := hid (HGET.out q hqL)
      clear hL0
      generalize xs.getD q Co.z = x at *
      obtain ⟨xn, xc⟩ := x
      have hwr := HST.out.bel.size
      have hqi : (q : Int) < (L : Int) := by omega
      have s0 : wr.cell? ⟨w.heap.size + 2, 2, none⟩ = some (.slice ya q yc) := HST.out.box.cell 2 rfl
      have sf : wr.frozen? ⟨w.heap.size + 2, 2, none⟩ = false := HST.out.box.frozen 2
      go_upto_region 5 with fail
      have HST2 := hid (HST.out.later (W' := wr.drew) (by have h1 := Below.refl wr.heap.size wr; repeat' (first | (with_reducible exact Below.refl _ _) | (with_reducible assumption) | (with_reducible refine below_drewN ?_) | (with_reducible refine Below.alloc ?_ ?_ _) | (with_reducible refine Below.drew ?_) | (with_reducible refine Below.setCell ?_ ?_ _) | (with_reducible refine Below.trans ?_ (Below.mono (by with_reducible assumption) ?_)) | go_size)) HST.out.bel.size (by omega))
      have HLW := hid (HL0.out.drew)
      have HZW : Hid (wr.drew.heap.size = wr.heap.size) := hid rfl
      go_region_law (first
        | (go_simp; go_at_call 135; go_must (((with_reducible refine (HGQ.out _ HST2.out.bel).mono ?_); rintro e w6 ⟨u6, rfl, hrd6, hb6⟩; have h6 := hrd6; obtain ⟨ua, uc, hu6, -⟩ := h6; (try simp only at hu6); subst hu6; have HB6 := hid hb6; have HRD6 := hid hrd6; have hz6 : wr.heap.size ≤ w6.heap.size := Nat.le_trans (Nat.le_of_eq HZW.out.symm) hb6.size; have HST6 := hid (HST2.out.later hb6 HST2.out.bel.size (by omega)); have HL6 := hid (own_later HLW.out hb6); have s6 : w6.cell? ⟨w.heap.size + 2, 2, none⟩ = some (.slice ya q yc) := HST6.out.box.cell 2 rfl; have HST7 := hid (HST6.out.later (W' := w6.alloc (.cells #[.string xn, .slice ua xc.length uc] 39)) ((Below.refl _ _).alloc (Nat.le_refl _) _) HST6.out.bel.size (by omega)); have s7 : (w6.alloc (.cells #[.string xn, .slice ua xc.length uc] 39)).cell? ⟨w.heap.size + 2, 2, none⟩ = some (.slice ya q yc) := HST7.out.box.cell 2 rfl; have HL7 := hid (HL6.out.alloc (.cells #[.string xn, .slice ua xc.length uc] 39)); have HN7 := hid (BoxN.new w6 #[.string xn, .slice ua xc.length uc] 39); clear hrd6 hb6)))
        | ((refine step_append_form _ rfl (.tmp 19) (.tmp 23) 27 27 rfl W0.heap.size 39 39 i0 (.agg #[.string ⟨#[]⟩, .slice none 0 0]) 2 40 Tryz.underlying27 Tryz.underlying27 hi hz0 hz1 hz2 rfl (by decide) (.slice ya q yc) q _ rfl HL7.out (some ⟨w6.heap.size, 0, none⟩) 1 1 [.string xn, .slice ua xc.length uc] rfl rfl (fun _ => ⟨_, rfl, World.news_of_block HN7.out⟩) (by intro u hu; simp at hu; rcases hu with rfl | rfl <;> rfl) (by omega) (by unfold maxLen; omega) (by omega) (by simp; omega) ?_); intro p8 cap8 w8 hown8 hg8 hat8 hlt8; have hbx8 := HST7.out.box.grown hg8 (fun e => by have := HL7.out.lt _ e.symm; omega); have q1 : w8.cell? ⟨w.heap.size + 2, 2, none⟩ = some (.slice ya q yc) := hbx8.cell 2 rfl; have fq1 := hbx8.frozen 2; have HG8 := hid hg8; have HOWN8 := hid hown8; have HAT8 := hid hat8; clear hown8 hg8 hat8 hbx8))
      all_goals
        have HNEW : Hid (RdCl (w6.alloc (.cells #[.string xn, .slice ua xc.length uc] 39)) (Own (w6.alloc (.cells #[.string xn, .slice ua xc.length uc] 39)) W0.heap.size (.slice ya q yc)) (.slice ua xc.length uc) xc) := hid ((HRD6.out.keep (fun p hp => World.cell?_alloc_lt _ _ _ hp.2)).more (fun b hb => ⟨by have h1 := hb.1; rw [HZW.out] at h1; omega, by have h1 := hb.2; simp; omega, fun e => by have h1 := (HL0.out.lt _ e).2; have h2 := hb.1; rw [HZW.out] at h2; omega⟩))
        clear q1 fq1 s0 sf s6 s7
        go_wp2
        go_roundg (gk - 1)
        case rel => exact ⟨q + 1, _, by go_num, by omega, hid (by rw [HSNq.out]; exact HST7.out.push (x := ⟨xn, xc⟩) (by rw [HQL.out]) (by rw [HQL.out]; exact HL7.out) HOWN8.out HG8.out HAT8.out HNEW.out (by omega) (by omega))⟩
        case measure => omega
    · obtain rfl : gk = 0 := by omega
      obtain rfl : q = L := by omega
      have hy2 := (show BoxN wr (w.heap.size + 1) _ _ from (HST.out.keep (w.heap.size + 1) (by omega) (by omega)).trans HY0.out)
      obtain ⟨L0, hL0⟩ := HST.out.own.owns
      rw [HQL.out] at hL0
      obtain ⟨ya, yc, rfl⟩ := own_slice hL0
      have c0 := hy2.cell 0 rfl
      have c1 := hy2.cell 1 rfl
      have c2 := hy2.cell 2 rfl
      have f0 := hy2.frozen 0
      have f1 := hy2.frozen 1
      have f2 := hy2.frozen 2
      have e0 : wr.cell? ⟨w.heap.size + 2, 0, none⟩ = some (.int .i64 id) := HST.out.box.cell 0 rfl
      have e1 : wr.cell? ⟨w.heap.size + 2, 1, none⟩ = some (.string nm) := HST.out.box.cell 1 rfl
      have e2 : wr.cell? ⟨w.heap.size + 2, 2, none⟩ = some (.slice ya q yc) := HST.out.box.cell 2 rfl
      have HTX : Hid (xs.take q = xs) := hid (List.take_of_length_le (by have := HXL.out; omega))
      clear hy2 hL0
      go_wp2
      have hwr := HST.out.bel.size
      refine bodyPost_ret (v := .agg #[.int .i64 id, .string nm, .slice ya q yc]) (by simp [results, Tryz.results134, go_sem, c0, c1, c2]) rfl ⟨_, rfl, ?_, by have := HST.out.bel; repeat' (first | (with_reducible exact Below.refl _ _) | (with_reducible assumption) | (with_reducible refine below_drewN ?_) | (with_reducible refine Below.alloc ?_ ?_ _) | (with_reducible refine Below.drew ?_) | (with_reducible refine Below.setCell ?_ ?_ _) | (with_reducible refine Below.trans ?_ (Below.mono (by with_reducible assumption) ?_)) | go_size)⟩
      have hown := HST.out.own
      rw [HTX.out] at hown
      exact (((hown.setCell (p := ⟨w.heap.size + 1, 0, none⟩) (by show w.heap.size + 1 < W0.heap.size; omega) _).setCell (p := ⟨w.heap.size + 1, 1, none⟩) (by show w.heap.size + 1 < W0.heap.size; omega) _).setCell (p := ⟨w.heap.size + 1, 2, none⟩) (by show w.heap.size + 1 < W0.heap.size; omega) _).lower (by omega)
end Go.Proofs.YtfmlpaplnkohpaaGreatDoor

namespace Go.Proofs.YtfmlpaplnkohpaaGreatDoor
open Go.RowKit

/-- a copy of a table, found -/
def FindT (w : World) (t : Ta) (e : Ending) (w' : World) : Prop :=
  ∃ u, e = .returned (.tuple #[.agg #[.int .i64 t.id, .string t.name, u], .bool true]) ∧ RdCo w' (News w w') u t.cols ∧ Below w.heap.size w w'
set_option maxRecDepth 100000 in
set_option maxHeartbeats 2000000 in
theorem table_FindT (v : Value) (ts : List Ta) (B i : Nat) (w : World) (hi : i < ts.length) (hu : ∀ j, j < i → (ts.getD j Ta.z).id ≠ (ts.getD i Ta.z).id) (hl : ts.length ≤ 1048576) (hv : RdTa w (· < B) v ts) (hB : B ≤ w.heap.size)
    (hxl : (ts.getD i Ta.z).cols.length ≤ 1048576) (hc : ∀ x ∈ (ts.getD i Ta.z).cols, x.cells.length ≤ 1048576) :
    Calls Tryz.prog 97 #[v, .int .i64 (ts.getD i Ta.z).id] w (FindT w (ts.getD i Ta.z)) := by
  have HFI := hid (fun W (hW : Below w.heap.size w W) => table_find v ts B i W hi hu hl (hv.keep fun p (hp : p.block < B) => hW.cell (p := p) (by omega)) (by have := hW.size; omega))
  obtain ⟨tv, ⟨a, c, rfl, hcc, hm, hrd⟩, hco⟩ := hv
  obtain ⟨b, o, rfl, hb, hcell⟩ := hrd (by omega)
  have hbw : b < w.heap.size := by have : b < B := hb; omega
  have k0 := hcell i hi 0 (by omega)
  have k1 := hcell i hi 1 (by omega)
  have k2 := hcell i hi 2 (by omega)
  simp only [taF, three, Nat.add_zero] at k0 k1 k2
  have hcx := hco i hi
  obtain ⟨ca, ck, hcv⟩ : ∃ a c, tv i = .slice a (ts.getD i Ta.z).cols.length c := by
    obtain ⟨cv, ⟨a, c, e, -⟩, -⟩ := hcx
    exact ⟨a, c, e⟩
  rw [hcv] at k2 hcx
  have HCX := hid hcx
  have HC := hid hc
  have HZ := hid (BoxN.new w #[.int .i64 0, .string ⟨#[]⟩, .slice none 0 0] 29)
  have HB0 := hid ((Below.refl w.heap.size w).alloc (Nat.le_refl _) (.cells #[.int .i64 0, .string ⟨#[]⟩, .slice none 0 0] 29))
  unfold FindT
  clear hcell hrd hco hcv hcx hu hc
  generalize ts.getD i Ta.z = t at *
  obtain ⟨id, nm, xs⟩ := t
  simp only at k0 k1 k2 HFI HCX HC hxl ⊢
  obtain ⟨L, hL⟩ : ∃ L, L = xs.length := ⟨_, rfl⟩
  rw [← hL] at k2 HCX hxl
  have HL := hid hL.symm
  clear hL
  have hii : (i : Int) < (ts.length : Int) := by omega
  have hi0 : ¬ (i : Int) < 0 := by omega
  generalize ts.length = M at *
  go_enter Tryz.func97, Tryz.ntmps97
  go_wp2_with fail
  with_reducible refine (HFI.out _ HB0.out).mono ?_
  generalize w.alloc (.cells #[.int .i64 0, .string ⟨#[]⟩, .slice none 0 0] 29) = W0 at *
  have hw0 := HB0.out.size
  rintro e w1 ⟨rfl, hb1⟩
  have HB1 := hid (HB0.out.trans (hb1.mono hw0))
  have HZ1 := hid (HZ.out.below hb1 HZ.out.lt)
  have m0 := (HB1.out.cell (p := ⟨b, o + i * 3, none⟩) hbw).trans k0
  have m1 := (HB1.out.cell (p := ⟨b, o + i * 3 + 1, none⟩) hbw).trans k1
  have m2 := (HB1.out.cell (p := ⟨b, o + i * 3 + 2, none⟩) hbw).trans k2
  have hsx := (Below.refl w1.heap.size w1).alloc (Nat.le_refl _) (.cells #[.int .i64 id, .string nm, .slice ca L ck] 29)
  have hbx := BoxN.new w1 #[.int .i64 id, .string nm, .slice ca L ck] 29
  have HB2 := hid (HB1.out.trans (hsx.mono HB1.out.size))
  have HZ2 := hid (HZ1.out.below hsx HZ1.out.lt)
  have hw1 := HB1.out.size
  have HWI := hid (table_with id nm xs w1.heap.size (.slice ca L ck) B (w1.alloc (.cells #[.int .i64 id, .string nm, .slice ca L ck] 29)) (hbx.cell 2 rfl) (HCX.out.keep fun p (hp : p.block < B) => HB2.out.cell (p := p) (by omega)) (Nat.le_trans hB HB2.out.size) (by rw [HL.out]; exact hxl) HC.out)
  rw [HL.out] at HWI
  have x0 := hbx.cell 0 rfl
  have x1 := hbx.cell 1 rfl
  have x2 := hbx.cell 2 rfl
  clear hb1 k0 k1 k2 hbx HFI
  go_wp2_with fail
  clear x0 x1 x2 m0 m1 m2
  with_reducible refine HWI.out.mono ?_
  rintro e w3 ⟨u, rfl, hco, hb3⟩
  have hrd := hco.read
  obtain ⟨ua, uc, rfl⟩ : ∃ a c, u = .slice a xs.length c := by
    obtain ⟨cv, ⟨a, c, e, -⟩, -⟩ := hrd
    exact ⟨a, c, e⟩
  rw [HL.out] at hrd ⊢
  have hz2 : (w1.alloc (.cells #[.int .i64 id, .string nm, .slice ca L ck] 29)).heap.size = w1.heap.size + 1 := by simp
  have HRD := hid hrd
  have HB3 := hid (HB2.out.trans (hb3.mono HB2.out.size))
  have hz3 := HZ2.out.below hb3 HZ2.out.lt
  have hzl := HZ1.out.lt
  have f0 := hz3.frozen 0
  have f1 := hz3.frozen 1
  have f2 := hz3.frozen 2
  have c0 := hz3.cell 0 rfl
  have c1 := hz3.cell 1 rfl
  have c2 := hz3.cell 2 rfl
  clear hco hrd hb3 hz3 HWI
  go_wp2
  refine bodyPost_ret (v := .tuple #[.agg #[.int .i64 id, .string nm, .slice ua L uc], .bool true]) (by simp [results, Tryz.results97, go_sem, c0, c1, c2]) rfl ⟨_, rfl, (HRD.out.keep fun p hp => ?_).more fun b hb => ?_, ((HB3.out.setCell (p := ⟨w.heap.size, 0, none⟩) (Nat.le_refl _) _).setCell (p := ⟨w.heap.size, 1, none⟩) (Nat.le_refl _) _).setCell (p := ⟨w.heap.size, 2, none⟩) (Nat.le_refl _) _⟩
  · have hp1 := hp.1
    rw [World.cell?_setCell_other _ _ _ _ (by intro e; subst e; simp at hp1; omega), World.cell?_setCell_other _ _ _ _ (by intro e; subst e; simp at hp1; omega), World.cell?_setCell_other _ _ _ _ (by intro e; subst e; simp at hp1; omega)]
  · have h1 := hb.1
    have h2 := hb.2
    exact ⟨by omega, by simp; omega⟩
end Go.Proofs.YtfmlpaplnkohpaaGreatDoor

namespace Go.Proofs.YtfmlpaplnkohpaaGreatDoor
open Go.RowKit

theorem rdCo_nx {w w' : World} {v : Value} {xs : List Co} (h : RdCo w (· < w.heap.size) v xs) (hb : Below w.heap.size w w') : RdCo w' (· < w'.heap.size) v xs :=
  (h.keep fun p (hp : p.block < w.heap.size) => hb.cell (p := p) hp).more fun b (hb' : b < w.heap.size) => Nat.lt_of_lt_of_le hb' hb.size
theorem find_mem {v : Value} {ts : List Ta} {B : Nat} {w : World} (h : ListV ts) (hv : RdTa w (· < B) v ts) (hB : B ≤ w.heap.size) {t : Ta} (ht : t ∈ ts) : Calls Tryz.prog 97 #[v, .int .i64 t.id] w (FindT w t) := by
  obtain ⟨i, hi, rfl⟩ := List.getElem_of_mem ht
  have e : ts[i] = ts.getD i Ta.z := by simp [List.getD, hi]
  rw [e]
  have hl := h.1
  obtain ⟨-, -, -, h64, n, hn, hc⟩ := h.2.1 _ ht
  rw [e] at h64 hc
  exact table_FindT v ts B i w hi (fun j hj => by have := ids_up h.2.2 hj hi; omega) (by omega) hv hB (by omega) (fun x hx => by have := (hc x hx).2.1; omega)

set_option maxRecDepth 100000 in
set_option maxHeartbeats 4000000 in
theorem lin_right (ts : List Ta) (v : Value) (x : Lk) (a b : Ta) (oa : Option Addr) (oc B : Nat) (w : World) (h : ListV ts) (ha : a ∈ ts) (hb : b ∈ ts) (hfa : Few a.cols) (e1 : a.id = x.src) (e2 : b.id = x.dst) (hg : grT a b = true) (hcan : canRun a.cols x.ops = true) (hrun : runL a.cols x.ops = b.cols) (hlen : x.ops.length ≤ 4)
    (hv : RdTa w (· < B) v ts) (hx : RdPo w (· < B) (.slice oa x.ops.length oc) x.ops) (hB : B ≤ w.heap.size) (hT : Tabs w) :
    Calls Tryz.prog 58 #[v, .agg #[.int .i64 x.src, .int .i64 x.dst, .slice oa x.ops.length oc]] w (Ret w (.bool true)) := by
  have HFA := hid (fun W (hW : Below w.heap.size w W) => find_mem h (hv.keep (w' := W) fun p (hp : p.block < B) => hW.cell (p := p) (by omega)) (Nat.le_trans hB hW.size) ha)
  have HFB := hid (fun W (hW : Below w.heap.size w W) => find_mem h (hv.keep (w' := W) fun p (hp : p.block < B) => hW.cell (p := p) (by omega)) (Nat.le_trans hB hW.size) hb)
  have hne : a.id ≠ b.id := fun e => by
    have := id_inj h.2.2 ha hb e
    subst this
    rw [grT_irrefl] at hg
    cases hg
  have HVA := hid (h.2.1 _ ha)
  have HVB := hid (h.2.1 _ hb)
  have HG := hid hg
  have HCAN := hid hcan
  have HRUN := hid hrun
  have HX := hid (fun W (hW : Below w.heap.size w W) => (hx.keep (w' := W) fun p (hp : p.block < B) => hW.cell (p := p) (by omega)).more (S' := (· < W.heap.size)) (fun b (hb : b < B) => by show b < W.heap.size; have := hW.size; omega))
  have HFW := hid hfa
  have HT := hid hT
  obtain ⟨tv, ⟨va, vc, rfl, -⟩, -⟩ := hv
  obtain ⟨ia, na, xa⟩ := a
  obtain ⟨ib, nb, xb⟩ := b
  obtain ⟨xs, xd, xo⟩ := x
  simp only at e1 e2 hne HFW HCAN HRUN HX hlen ⊢
  subst e1 e2
  clear h ha hb hfa hg hcan hrun hx hT
  generalize ts.length = M at *
  obtain ⟨l, hl⟩ : ∃ l, l = xo.length := ⟨_, rfl⟩
  rw [← hl] at HX hlen
  rw [← hl]
  have HL := hid hl.symm
  clear hl
  have hneb : (ia == ib) = false := by simpa using hne
  have HB0 := hid ((Below.refl w.heap.size w).alloc (Nat.le_refl _) (.cells #[.int .i64 ia, .int .i64 ib, .slice oa l oc] 66))
  have HBX := hid (BoxN.new w #[.int .i64 ia, .int .i64 ib, .slice oa l oc] 66)
  have x0 := HBX.out.cell 0 rfl
  go_enter Tryz.func58, Tryz.ntmps58
  go_wp2_with fail
  clear x0
  with_reducible refine (HFA.out _ HB0.out).mono ?_
  generalize w.alloc (.cells #[.int .i64 ia, .int .i64 ib, .slice oa l oc] 66) = W0 at *
  have hw0 := HB0.out.size
  rintro e w1 ⟨ua, rfl, hra, hb1⟩
  simp only at hra ⊢
  obtain ⟨p1, c1, rfl⟩ := rdCo_len hra
  obtain ⟨la, hla⟩ : ∃ la, la = xa.length := ⟨_, rfl⟩
  rw [← hla] at hra
  rw [← hla]
  clear hla
  have HB1 := hid (HB0.out.trans (hb1.mono hw0))
  have hbx1 := HBX.out.below hb1 HBX.out.lt
  have hs2 := (Below.refl w1.heap.size w1).alloc (Nat.le_refl _) (.cells #[.int .i64 ia, .string na, .slice p1 la c1] 29)
  have hbxl := hbx1.lt
  have HBX2 := hid (hbx1.below hs2 hbxl)
  have HBA2 := hid (BoxN.new w1 #[.int .i64 ia, .string na, .slice p1 la c1] 29)
  have HB2 := hid (HB1.out.trans (hs2.mono HB1.out.size))
  have HRA2 := hid (rdCo_nx (hra.more (S' := (· < w1.heap.size)) fun b hb => hb.2) hs2)
  have x1 := HBX2.out.cell 1 rfl
  clear hb1 hbx1 hs2 hra
  go_wp2_with fail
  clear x1
  with_reducible refine (HFB.out _ HB2.out).mono ?_
  generalize w1.alloc (.cells #[.int .i64 ia, .string na, .slice p1 la c1] 29) = W2 at *
  rintro e w3 ⟨ub, rfl, hrb, hb3⟩
  simp only at hrb ⊢
  obtain ⟨p3, c3, rfl⟩ := rdCo_len hrb
  obtain ⟨lb, hlb⟩ : ∃ lb, lb = xb.length := ⟨_, rfl⟩
  rw [← hlb] at hrb
  rw [← hlb]
  clear hlb
  have HB3 := hid (HB2.out.trans (hb3.mono HB2.out.size))
  have hs4 := hb3.trans (((Below.refl w3.heap.size w3).alloc (Nat.le_refl _) (.cells #[.int .i64 ib, .string nb, .slice p3 lb c3] 29)).mono hb3.size)
  have hs4' := (Below.refl w3.heap.size w3).alloc (Nat.le_refl _) (.cells #[.int .i64 ib, .string nb, .slice p3 lb c3] 29)
  have HBX4 := hid (HBX2.out.below hs4 HBX2.out.lt)
  have HBA4 := hid (HBA2.out.below hs4 HBA2.out.lt)
  have HBB4 := hid (BoxN.new w3 #[.int .i64 ib, .string nb, .slice p3 lb c3] 29)
  have HB4 := hid (HB3.out.trans (hs4'.mono HB3.out.size))
  have HRA4 := hid (rdCo_nx HRA2.out hs4)
  have HRB4 := hid (rdCo_nx (hrb.more (S' := (· < w3.heap.size)) fun b hb => hb.2) hs4')
  have HGR := hid (lin_greater ⟨ia, na, xa⟩ ⟨ib, nb, xb⟩ (.slice p1 la c1) (.slice p3 lb c3) _ _ HRA4.out HRB4.out (Nat.le_refl _) HVA.out.cnt HVB.out.cnt)
  rw [HG.out] at HGR
  simp only at HGR
  have x0 := HBX4.out.cell 0 rfl
  have x1 := HBX4.out.cell 1 rfl
  have y0 := HBA4.out.cell 0 rfl
  have y1 := HBA4.out.cell 1 rfl
  have y2 := HBA4.out.cell 2 rfl
  have z0 := HBB4.out.cell 0 rfl
  have z1 := HBB4.out.cell 1 rfl
  have z2 := HBB4.out.cell 2 rfl
  clear hb3 hs4 hs4' hrb
  go_wp2_with fail
  clear x0 x1 y0 y1 y2 z0 z1 z2
  with_reducible refine HGR.out.mono ?_
  generalize w3.alloc (.cells #[.int .i64 ib, .string nb, .slice p3 lb c3] 29) = W4 at *
  rintro e w5 ⟨rfl, hb5⟩
  have HB5 := hid (HB4.out.trans (hb5.mono HB4.out.size))
  have HBX5 := hid (HBX4.out.below hb5 HBX4.out.lt)
  have HBA5 := hid (HBA4.out.below hb5 HBA4.out.lt)
  have HBB5 := hid (HBB4.out.below hb5 HBB4.out.lt)
  have HRA5 := hid (rdCo_nx HRA4.out hb5)
  have HRB5 := hid (rdCo_nx HRB4.out hb5)
  have HRN := hid (expl_Run ⟨ia, na, xa⟩ (.slice p1 la c1) (.slice oa l oc) xo w5.heap.size w5 HVA.out HFW.out HRA5.out (HX.out w5 HB5.out) (Nat.le_refl _) (HT.out.below HB5.out) HCAN.out (by rw [HL.out]; omega))
  simp only at HRN
  rw [HRUN.out] at HRN
  have x2 := HBX5.out.cell 2 rfl
  have y0 := HBA5.out.cell 0 rfl
  have y1 := HBA5.out.cell 1 rfl
  have y2 := HBA5.out.cell 2 rfl
  clear hb5 HGR
  go_wp2_with fail
  clear x2 y0 y1 y2
  with_reducible refine HRN.out.mono ?_
  rintro e w6 ⟨y6, rfl, hrd6, hb6⟩
  obtain ⟨p6, c6, rfl⟩ := rdCo_len hrd6
  obtain ⟨l6, hl6⟩ : ∃ l6, l6 = xb.length := ⟨_, rfl⟩
  rw [← hl6] at hrd6
  rw [← hl6]
  clear hl6
  have HB6 := hid (HB5.out.trans (hb6.mono HB5.out.size))
  have hs7 := (Below.refl w6.heap.size w6).alloc (Nat.le_refl _) (.cells #[.int .i64 ia, .string na, .slice p6 l6 c6] 29)
  have hs57 := hb6.trans (hs7.mono hb6.size)
  have HB7 := hid (HB6.out.trans (hs7.mono HB6.out.size))
  have HBB7 := hid (HBB5.out.below hs57 HBB5.out.lt)
  have HBT7 := hid (BoxN.new w6 #[.int .i64 ia, .string na, .slice p6 l6 c6] 29)
  have HAL := hid (expl_Alike ia ib na nb (.slice p6 l6 c6) (.slice p3 lb c3) xb xb _ _ (rdCo_nx (hrd6.more (S' := (· < w6.heap.size)) fun b hb => hb.2) hs7) (rdCo_nx HRB5.out hs57) (Nat.le_refl _))
  rw [decide_eq_true rfl] at HAL
  have x0 := HBT7.out.cell 0 rfl
  have x1 := HBT7.out.cell 1 rfl
  have x2 := HBT7.out.cell 2 rfl
  have z0 := HBB7.out.cell 0 rfl
  have z1 := HBB7.out.cell 1 rfl
  have z2 := HBB7.out.cell 2 rfl
  clear hb6 hs7 hs57 hrd6 HRN
  go_wp2_with fail
  clear x0 x1 x2 z0 z1 z2
  with_reducible refine HAL.out.mono ?_
  rintro e w8 ⟨rfl, hb8⟩
  have HB8 := hid (HB7.out.trans (hb8.mono HB7.out.size))
  clear hb8
  go_wp2
  go_ret
  exact ⟨rfl, HB8.out⟩
end Go.Proofs.YtfmlpaplnkohpaaGreatDoor

namespace Go.Proofs.YtfmlpaplnkohpaaGreatDoor
open Go.RowKit

/-- a right link of the tables -/
def RightL (ts : List Ta) (x : Lk) : Prop := ∃ a ∈ ts, ∃ b ∈ ts, Few a.cols ∧ a.id = x.src ∧ b.id = x.dst ∧ grT a b = true ∧ canRun a.cols x.ops = true ∧ runL a.cols x.ops = b.cols ∧ x.ops.length ≤ 4

set_option maxRecDepth 100000 in
set_option maxHeartbeats 4000000 in
theorem lin_Check (ts : List Ta) (xs : List Lk) (v u : Value) (B : Nat) (w : World) (h : ListV ts) (hr : ∀ x ∈ xs, RightL ts x) (hs : xs.Pairwise fun a b => a.dst < b.dst) (hl : xs.length ≤ 1048576) (hv : RdTa w (· < B) v ts) (hu : RdLk w (· < B) u xs) (hB : B ≤ w.heap.size) (hT : Tabs w) :
    Calls Tryz.prog 29 #[v, u] w (Ret w (.bool true)) := by
  obtain ⟨ua, uc, rfl, huc, hum⟩ := rdLk_len hu
  have HU := hid hu
  have HV := hid (fun W (hW : Below w.heap.size w W) => hv.keep (w' := W) fun p (hp : p.block < B) => hW.cell (p := p) (by omega))
  have HRI := hid (fun q (hq : q < xs.length) oa oc W (hW : Below w.heap.size w W) (hx : RdPo W (· < B) (.slice oa (xs.getD q Lk.z).ops.length oc) (xs.getD q Lk.z).ops) => (by
    obtain ⟨a, ha, b, hb, hf, e1, e2, hg, hc, hn, h4⟩ := hr _ (getD_mem hq Lk.z)
    exact lin_right ts v _ a b oa oc B W h ha hb hf e1 e2 hg hc hn h4 (HV.out W hW) hx (Nat.le_trans hB hW.size) (hT.below hW) :
    Calls Tryz.prog 58 #[v, .agg #[.int .i64 (xs.getD q Lk.z).src, .int .i64 (xs.getD q Lk.z).dst, .slice oa (xs.getD q Lk.z).ops.length oc]] W (Ret W (.bool true))))
  have HTO := hid (fun q (hq : q < xs.length) W (hW : Below w.heap.size w W) => (by
    have h1 := lin_to (.slice ua q uc) (xs.take q) B (xs.getD q Lk.z).dst W (by have := List.length_take_le q xs; omega) ((hu.take (q := q) (by omega)).keep fun p (hp : p.block < B) => hW.cell (p := p) (by omega)) (Nat.le_trans hB hW.size)
    have h2 : toL (xs.take q) (xs.getD q Lk.z).dst = none := toL_out fun j hj e => by
      have hlt : j < q := by rw [List.length_take] at hj; omega
      have h3 := List.pairwise_iff_getElem.1 hs j q (by omega) hq hlt
      simp [List.getD, List.getElem?_take, hlt, hq, show j < xs.length by omega] at e
      omega
    unfold ToP at h1
    rw [h2] at h1
    exact h1.mono fun e w' h => ⟨h.2, h.1⟩ :
    Calls Tryz.prog 57 #[.slice ua q uc, .int .i64 (xs.getD q Lk.z).dst] W (Ret W (.tuple #[.agg #[.int .i64 0, .int .i64 0, .slice none 0 0], .bool false]))))
  obtain ⟨tv, ⟨va, vc, rfl, -⟩, -⟩ := hv
  clear hu h hr hs hT HV
  generalize ts.length = M at *
  generalize hxl : xs.length = L at *
  have HXL := hid hxl
  clear hxl
  go_enter Tryz.func29, Tryz.ntmps29
  go_wp2_with fail
  go_loopg [11] L (fun N i wr => ∃ q : Nat, i = .int .i64 (q : Int) ∧ q + N = L ∧ Hid (Below w.heap.size w wr))
  case atStart => exact ⟨0, rfl, by omega, hid (Below.refl _ _)⟩
  case round =>
    obtain ⟨q, rfl, hq, HB⟩ := hrel
    have hwz := HB.out.size
    by_cases hp : 0 < gk
    · have hqL : q < L := by omega
      have hrx := HU.out.keep (w' := wr) fun p (hp : p.block < B) => HB.out.cell (p := p) (by omega)
      obtain ⟨b, o, c3, y, e3, hb, hpo, k0, k1, k2⟩ := lk_at hrx (q := q) (by rw [HXL.out]; exact hqL)
      rw [HXL.out] at e3
      obtain ⟨rfl, -, rfl⟩ := Value.slice.inj e3
      obtain ⟨oa, oc, rfl⟩ := rdPo_len hpo
      have HRQ := hid (fun W hW hx => HRI.out q hqL oa oc W hW hx)
      have HTQ := hid (HTO.out q hqL)
      have HPO := hid (fun W (hW : Below wr.heap.size wr W) => hpo.keep (w' := W) fun p (hp : p.block < B) => hW.cell (p := p) (by omega))
      have hqi : (q : Int) < (L : Int) := by omega
      have hqc : (q : Int) ≤ (uc : Int) := by omega
      clear e3 hb hrx hpo
      generalize xs.getD q Lk.z = x at *
      obtain ⟨sx, dx, ox⟩ := x
      simp only at k0 k1 k2 HRQ HTQ HPO
      generalize ox.length = l at *
      obtain ⟨W2, hW2⟩ : ∃ W2, W2 = wr.alloc (.cells #[.int .i64 sx, .int .i64 dx, .slice oa l oc] 66) := ⟨_, rfl⟩
      have hbx := BoxN.new wr #[.int .i64 sx, .int .i64 dx, .slice oa l oc] 66
      have hsx := (Below.refl wr.heap.size wr).alloc (Nat.le_refl _) (.cells #[.int .i64 sx, .int .i64 dx, .slice oa l oc] 66)
      go_upto_region 4 with fail
      rw [← hW2] at hbx hsx ⊢
      have HB2 := hid (HB.out.trans (hsx.mono hwz))
      have HBX := hid hbx
      have HSX := hid hsx
      have hw2 := hsx.size
      have x1 := hbx.cell 1 rfl
      have hd2 : Below W2.heap.size W2 W2.drew := (Below.refl _ _).drew
      have ha2 := ((Below.refl W2.heap.size W2).alloc (Nat.le_refl _) (.cells #[.int .i64 0, .int .i64 0, .slice none 0 0] 66)).drew
      have x2 := (HBX.out.below ha2 HBX.out.lt).cell 1 rfl
      have HTA := hid (HTQ.out W2.drew (HB2.out.trans (hd2.mono HB2.out.size)))
      have HTB := hid (HTQ.out _ (HB2.out.trans (ha2.mono HB2.out.size)))
      have HLB := hid ((BoxN.new W2 #[.int .i64 0, .int .i64 0, .slice none 0 0] 66).drewN 1)
      have HD2 := hid hd2
      have HA2 := hid ha2
      clear hbx hsx hd2 ha2 hW2 k0 k1 k2
      go_region_law (first
        | (go_simp; go_at_call 57; go_must (first
          | ((with_reducible refine HTA.out.mono ?_); rintro e w5 ⟨rfl, hb5⟩; have H5 : Hid (Below W2.heap.size W2 w5) := hid (HD2.out.trans hb5); clear hb5)
          | ((with_reducible refine HTB.out.mono ?_); rintro e w5 ⟨rfl, hb5⟩; have H5 : Hid (Below W2.heap.size W2 w5) := hid (HA2.out.trans (hb5.mono HA2.out.size)); have hlb := HLB.out.below hb5 HLB.out.lt; have z0 := hlb.cell 0 rfl; have z1 := hlb.cell 1 rfl; have z2 := hlb.cell 2 rfl; have g0 := hlb.frozen 0; have g1 := hlb.frozen 1; have g2 := hlb.frozen 2; clear hb5 hlb))))
      all_goals
        first
          | (obtain ⟨W6, hW6⟩ : ∃ W6, W6 = w5.alloc (.cells #[.int .i64 0, .int .i64 0, .slice none 0 0] 66) := ⟨_, rfl⟩; rw [← hW6]; have H6 : Hid (Below W2.heap.size W2 W6) := hid (by rw [hW6]; exact H5.out.alloc H5.out.size _); clear hW6)
          | (obtain ⟨W6, hW6⟩ : ∃ W6, W6 = ((w5.setCell ⟨W2.heap.size, 0, none⟩ (.int .i64 0)).setCell ⟨W2.heap.size, 1, none⟩ (.int .i64 0)).setCell ⟨W2.heap.size, 2, none⟩ (.slice none 0 0) := ⟨_, rfl⟩; rw [← hW6]; have H6 : Hid (Below W2.heap.size W2 W6) := hid (by rw [hW6]; exact ((H5.out.setCell (p := ⟨W2.heap.size, 0, none⟩) (Nat.le_refl _) _).setCell (p := ⟨W2.heap.size, 1, none⟩) (Nat.le_refl _) _).setCell (p := ⟨W2.heap.size, 2, none⟩) (Nat.le_refl _) _); clear hW6)
        clear x1 x2
        have hx6 := HBX.out.below H6.out HBX.out.lt
        have HRR := hid (HRQ.out W6 (HB2.out.trans (H6.out.mono HB2.out.size)) (HPO.out W6 (HSX.out.trans (H6.out.mono hw2))))
        have x0 := hx6.cell 0 rfl
        have x1 := hx6.cell 1 rfl
        have x2 := hx6.cell 2 rfl
        clear hx6
        go_wp2_with fail
        with_reducible refine HRR.out.mono ?_
        rintro e w7 ⟨rfl, hb7⟩
        have H7 := hid (HB2.out.trans ((H6.out.trans (hb7.mono H6.out.size)).mono HB2.out.size))
        clear hb7 x0 x1 x2
        go_wp2
        go_roundg (gk - 1)
        case rel => exact ⟨q + 1, by go_num, by omega, H7⟩
        case measure => omega
    · obtain rfl : gk = 0 := by omega
      obtain rfl : L = q := by omega
      go_wp2
      go_ret
      exact ⟨rfl, HB.out⟩
end Go.Proofs.YtfmlpaplnkohpaaGreatDoor
