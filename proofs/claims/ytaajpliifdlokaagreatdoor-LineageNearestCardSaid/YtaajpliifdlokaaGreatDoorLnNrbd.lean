/- Contract of lineage.Links, at valid tables of few rows. Contracts of slices.IndexFunc at links, and of lineage.to. -/
import Derived.Deep.Cut
import Derived.Deep.CutRange
import Derived.Test.YtaajpliifdlokaaGreatDoorLnNrai
import Derived.Test.YtaajpliifdlokaaGreatDoorLnNrak
import Derived.Test.YtaajpliifdlokaaGreatDoorLnNrbc
set_option linter.unusedVariables false
set_option linter.unusedSimpArgs false
namespace Go.Proofs.YtaajpliifdlokaaGreatDoor
open Go.RowKit
theorem lists_PermittedL (v : Value) (ts : List Ta) (B : Nat) (w : World) (h : ListV ts) (hv : RdTa w (· < B) v ts) (hB : B ≤ w.heap.size) (hT : Tabs w) :
    Calls Tryz.prog 38 #[v] w (Ret w (.bool true)) := by
  have HV := hid (table_ValidList v ts B w h hv hB hT)
  obtain ⟨tv, ⟨a, c, rfl, -⟩, -⟩ := hv
  clear h hB hT
  generalize ts.length = L at *
  go_enter Tryz.func38, Tryz.ntmps38
  go_wp2_with fail
  with_reducible refine HV.out.mono ?_
  rintro e w1 ⟨rfl, hb1⟩
  have HB1 := hid hb1
  clear hb1
  go_wp2
  go_ret
  exact ⟨rfl, HB1.out⟩
theorem fm_snoc {β : Type} (f : Ta → Option β) {ts : List Ta} {q : Nat} (h : q < ts.length) : (ts.take (q + 1)).filterMap f = (ts.take q).filterMap f ++ (f (ts.getD q Ta.z)).toList := by
  rw [List.take_succ_eq_append_getElem h, List.filterMap_append]
  congr 1
  have e : ts[q] = ts.getD q Ta.z := by simp [List.getD, h]
  rw [e]
  generalize ts.getD q Ta.z = t
  cases hf : f t with
  | none => simp [hf]
  | some y => simp [hf]
theorem link_min {ts : List Ta} {b : Ta} {k : Nat} (hk : k < (fromsL ts b).length) (h : (fromsL ts b).getD k Or.z = mTo (fromsL ts b) ((fromsL ts b).length - 1)) :
    linkO ts b = some ⟨((fromsL ts b).getD k Or.z).1.id, b.id, ((fromsL ts b).getD k Or.z).2⟩ := by
  rw [h]
  unfold linkO
  cases hf : fromsL ts b with
  | nil => rw [hf] at hk; simp at hk
  | cons x r =>
    simp only [List.length_cons, Nat.add_sub_cancel]
    rw [mTo_all]
theorem link_nil {ts : List Ta} {b : Ta} (h : fromsL ts b = []) : linkO ts b = none := by
  unfold linkO
  rw [h]
theorem orig_short {ts : List Ta} {b : Ta} (hv : ∀ t ∈ ts, TabV t) : ∀ y ∈ fromsL ts b, Cnt y.1.cols ∧ y.2.length ≤ 4 := fun y hy => by
  obtain ⟨h1, -, h2⟩ := froms_iff.1 hy
  obtain ⟨f, p, e, -, -, -, -, h4, -⟩ := find_shape h2
  exact ⟨(hv _ h1).cnt, h4⟩
def LinksP (w : World) (ts : List Ta) (e : Ending) (w' : World) : Prop :=
  ∃ u, e = .returned (.tuple #[u, .int .i64 0]) ∧ RdLk w' (News w w') u (linksL ts) ∧ Below w.heap.size w w'
set_option maxRecDepth 100000 in
set_option maxHeartbeats 8000000 in
theorem lin_Links (ts : List Ta) (v : Value) (B : Nat) (w : World) (h : ListV ts) (hf : ∀ t ∈ ts, Few t.cols) (hv : RdTa w (· < B) v ts) (hB : B ≤ w.heap.size) (hT : Tabs w) :
  Calls Tryz.prog 30 #[v] w (LinksP w ts) := by
 have HPE := hid (lists_PermittedL v ts B w h hv hB hT)
 have HASC := hid (links_dst h.2.2)
 have HLL : Hid ((linksL ts).length ≤ 1048576) := hid (by have := h.1; have h2 := List.length_filterMap_le (linkO ts) ts; unfold linksL; omega)
 have HTV := hid (fun q (hq : q < ts.length) => h.2.1 _ (getD_mem hq Ta.z))
 have HFW := hid (fun q (hq : q < ts.length) => hf _ (getD_mem hq Ta.z))
 have HOS := hid (fun b => orig_short (b := b) h.2.1)
 have HT := hid hT
 have hlen : ts.length ≤ 1024 := h.1
 obtain ⟨tv, ⟨a, c, rfl, hcc, hcm, hr⟩, hco⟩ := hv
 have HR := hid hr
 have HCO := hid hco
 have HSN := hid (fun q (hq : q < ts.length) => @fm_snoc _ (linkO ts) ts q hq)
 have HSO := hid (fun b q (hq : q < ts.length) => @fm_snoc _ (origO b) ts q hq)
 have HALL : Hid (∀ b, (ts.take ts.length).filterMap (origO b) = fromsL ts b) := hid (fun b => by rw [List.take_length]; rfl)
 have HALL2 : Hid ((ts.take ts.length).filterMap (linkO ts) = linksL ts) := hid (by rw [List.take_length]; rfl)
 clear h hf hT hr hco
 generalize hL : ts.length = L at *
 have HL := hid hL
 clear hL
 obtain ⟨j0, hj0, hy0, hy1, hy2⟩ := info_parts info_orig
 obtain ⟨j1, hj1, hz0, hz1, hz2⟩ := info_parts info_link
 go_enter Tryz.func30, Tryz.ntmps30
 generalize hLA : Code.loop _ = LA
 go_wp2_with fail
 with_reducible refine HPE.out.mono ?_
 rintro e w1 ⟨rfl, hb1⟩
 have hw1 := hb1.size
 have HB1 := hid hb1
 clear hb1 HPE
 go_wp2_with fail
 subst hLA
 go_loopg [18, 4] L (fun N i s4 wr => ∃ (q : Nat), i = .int .i64 (q : Int) ∧ q + N = L ∧ Hid (Below w1.heap.size w1 wr) ∧ Hid (LkSt wr w1.heap.size 76 s4 ((ts.take q).filterMap (linkO ts))))
 case atStart => exact ⟨0, rfl, by omega, hid (Below.refl _ _), hid (LkSt.start (Nat.le_refl _))⟩
 case round =>
  obtain ⟨q, rfl, hq, HB, HLK⟩ := hrel
  have hwr := HB.out.size
  obtain ⟨L0, hL0⟩ := HLK.out.owns
  obtain ⟨oa, oc, hsl⟩ := own_slice hL0
  subst hsl
  by_cases hp : 0 < gk
  ·have hqL : q < L := by omega
   obtain ⟨b, o, rfl, hb, hcell⟩ := HR.out (by omega)
   have hbw : b < w.heap.size := by have : b < B := hb; omega
   have HCELL := hid hcell
   have HBW := hid (HB1.out.trans (HB.out.mono hw1))
   have HKEEP := hid (fun W (hW : Below w.heap.size w W) j (hj : j < L) m (hm : m < 3) => (hW.cell (p := ⟨b, o + j * 3 + m, none⟩) hbw).trans (hcell j hj m hm))
   have k0 := HKEEP.out wr HBW.out q hqL 0 (by omega)
   have k1 := HKEEP.out wr HBW.out q hqL 1 (by omega)
   have k2 := HKEEP.out wr HBW.out q hqL 2 (by omega)
   simp only [taF, three, Nat.add_zero] at k0 k1 k2
   have hrb := HCO.out q hqL
   obtain ⟨ca, ck, hcq⟩ : ∃ a c, tv q = .slice a (ts.getD q Ta.z).cols.length c := by
    obtain ⟨cv, ⟨a, c, e, -⟩, -⟩ := hrb
    exact ⟨a, c, e⟩
   rw [hcq] at k2 hrb
   have HSNq := hid (HSN.out q hqL)
   have HTVb := hid (HTV.out q hqL)
   have HFN := hid (HALL.out (ts.getD q Ta.z))
   have HLM := hid (fun k => @link_min ts (ts.getD q Ta.z) k)
   have HLN := hid (@link_nil ts (ts.getD q Ta.z))
   have HSOb := hid (HSO.out (ts.getD q Ta.z))
   have HOSb := hid (HOS.out (ts.getD q Ta.z))
   have HRB := hid (fun W (hW : Below w.heap.size w W) => (hrb.keep fun p (hp : p.block < B) => hW.cell (p := p) (by omega) : RdCo W (· < B) (.slice ca (ts.getD q Ta.z).cols.length ck) (ts.getD q Ta.z).cols))
   clear hcell hcq hrb
   generalize ts.getD q Ta.z = tb at *
   obtain ⟨ib, nb, xb⟩ := tb
   simp only at k0 k1 k2 HTVb HRB
   obtain ⟨lb, hlb⟩ : ∃ lb, lb = xb.length := ⟨_, rfl⟩
   rw [← hlb] at k2 HRB
   clear hlb
   have hbx := BoxN.new wr #[.int .i64 ib, .string nb, .slice ca lb ck] 51
   have hsx := (Below.refl wr.heap.size wr).alloc (Nat.le_refl _) (.cells #[.int .i64 ib, .string nb, .slice ca lb ck] 51)
   go_wp2_with fail
   generalize hLB : Code.loop _ = LB
   go_wp2_with fail
   generalize wr.alloc (.cells #[.int .i64 ib, .string nb, .slice ca lb ck] 51) = W2 at *
   have hw2 := hsx.size
   have HBX := hid hbx
   have HSX := hid hsx
   have HBW2 := hid (HBW.out.trans (hsx.mono HBW.out.size))
   have hbl := hbx.lt
   have HLK2 := hid (HLK.out.later hsx (by omega))
   have hww2 := HBW2.out.size
   clear hbx hsx k0 k1 k2 HLK hL0
   subst hLB
   obtain ⟨wo, rfl⟩ : ∃ wo, wo = wr := ⟨wr, rfl⟩
   obtain ⟨go, rfl⟩ : ∃ go, go = gk := ⟨gk, rfl⟩
   go_loopg [24, 7] L (fun N i s7 wr => ∃ (p : Nat) (cv uv : Nat → Value), i = .int .i64 (p : Int) ∧ p + N = L ∧ Hid (Below W2.heap.size W2 wr) ∧ Hid (OrSt wr B W2.heap.size 111 s7 ((ts.take p).filterMap (origO ⟨ib, nb, xb⟩)) cv uv))
   case atStart => exact ⟨0, fun _ => .bool false, fun _ => .bool false, rfl, by omega, hid (Below.refl _ _), hid (OrSt.start (Nat.le_refl _))⟩
   case round =>
    obtain ⟨p, cv, uv, rfl, hpp, HBI, HOR⟩ := hrel
    obtain ⟨ya, yc, hys⟩ := own_slice HOR.out.row
    subst hys
    have hwi := HBI.out.size
    by_cases hp2 : 0 < gk
    ·have hpL : p < L := by omega
     have HBWi := hid (HBW2.out.trans (HBI.out.mono hww2))
     have k0 := HKEEP.out wr HBWi.out p hpL 0 (by omega)
     have k1 := HKEEP.out wr HBWi.out p hpL 1 (by omega)
     have k2 := HKEEP.out wr HBWi.out p hpL 2 (by omega)
     simp only [taF, three, Nat.add_zero] at k0 k1 k2
     have hra := HCO.out p hpL
     obtain ⟨da, dk, hcp⟩ : ∃ a c, tv p = .slice a (ts.getD p Ta.z).cols.length c := by
      obtain ⟨cv, ⟨a, c, e, -⟩, -⟩ := hra
      exact ⟨a, c, e⟩
     rw [hcp] at k2 hra
     have HSOp := hid (HSOb.out p hpL)
     have HTVa := hid (HTV.out p hpL)
     have HFWa := hid (HFW.out p hpL)
     have HRA := hid (fun W (hW : Below w.heap.size w W) => (hra.keep fun p (hp : p.block < B) => hW.cell (p := p) (by omega) : RdCo W (· < B) (.slice da (ts.getD p Ta.z).cols.length dk) (ts.getD p Ta.z).cols))
     have HNO : Hid (((ts.take p).filterMap (origO ⟨ib, nb, xb⟩)).length ≤ 1024) := hid (by
      have h1 := List.length_filterMap_le (origO ⟨ib, nb, xb⟩) (ts.take p)
      have h2 := List.length_take_le p ts
      omega)
     clear hcp hra
     generalize ts.getD p Ta.z = ta at *
     obtain ⟨ia, na, xa⟩ := ta
     simp only at k0 k1 k2 HTVa HFWa HRA
     have HORI : Hid (origO ⟨ib, nb, xb⟩ ⟨ia, na, xa⟩ = if grT ⟨ia, na, xa⟩ ⟨ib, nb, xb⟩ = true then (findL xa xb).map (fun os => ((⟨ia, na, xa⟩ : Ta), os)) else none) := hid rfl
     have HGR := hid (fun W (hW : Below w.heap.size w W) => lin_greater ⟨ia, na, xa⟩ ⟨ib, nb, xb⟩ (.slice da xa.length dk) (.slice ca lb ck) B W (HRA.out W hW) (HRB.out W hW) (Nat.le_trans hB hW.size) HTVa.out.cnt HTVb.out.cnt)
     have HFI := hid (fun W (hW : Below w.heap.size w W) => expl_FindN ⟨ia, na, xa⟩ ⟨ib, nb, xb⟩ (.slice da xa.length dk) (.slice ca lb ck) B W HTVa.out HTVb.out HFWa.out (HRA.out W hW) (HRB.out W hW) (Nat.le_trans hB hW.size) (HT.out.below hW))
     simp only at HGR HFI
     obtain ⟨la, hla⟩ : ∃ la, la = xa.length := ⟨_, rfl⟩
     rw [← hla] at k2 HRA HGR HFI
     clear hla
     generalize grT ⟨ia, na, xa⟩ ⟨ib, nb, xb⟩ = G at *
     generalize findL xa xb = F at *
     have hax := BoxN.new wr #[.int .i64 ia, .string na, .slice da la dk] 51
     have hsa := (Below.refl wr.heap.size wr).alloc (Nat.le_refl _) (.cells #[.int .i64 ia, .string na, .slice da la dk] 51)
     have hbx4 := HBX.out.below (HBI.out.trans (hsa.mono hwi)) hbl
     have HORN : Hid (((ts.take p).filterMap (origO ⟨ib, nb, xb⟩)).length = ((ts.take p).filterMap (origO ⟨ib, nb, xb⟩)).length) := hid rfl
     generalize hno : ((ts.take p).filterMap (origO ⟨ib, nb, xb⟩)).length = no at *
     have HNN := hid hno
     have hno1 := HNO.out
     have HOR' : Hid (OrSt wr B W2.heap.size 111 (.slice ya no yc) ((ts.take p).filterMap (origO ⟨ib, nb, xb⟩)) cv uv) := HOR
     clear HORN hno
     obtain ⟨W4, hW4⟩ : ∃ W4, W4 = wr.alloc (.cells #[.int .i64 ia, .string na, .slice da la dk] 51) := ⟨_, rfl⟩
     rw [← hW4] at hax hsa hbx4
     have x0 := hax.cell 0 rfl
     have x1 := hax.cell 1 rfl
     have x2 := hax.cell 2 rfl
     have y0 := hbx4.cell 0 rfl
     have y1 := hbx4.cell 1 rfl
     have y2 := hbx4.cell 2 rfl
     rw [hW4] at x0 x1 x2 y0 y1 y2
     have HAX := hid hax
     have HSA := hid hsa
     have HBX4 := hid hbx4
     have HBW4 := hid (HBWi.out.trans (hsa.mono HBWi.out.size))
     have hw4 := hsa.size
     have hal := hax.lt
     have hbl4 := hbx4.lt
     clear hax hsa hbx4
     go_wp2_with fail
     rw [← hW4]
     clear hW4 x0 x1 x2 y0 y1 y2 k0 k1 k2
     with_reducible refine (HGR.out W4 HBW4.out).mono ?_
     rintro e w5 ⟨rfl, hb5⟩
     have hw5 := hb5.size
     have HSA5 := hid (HSA.out.trans (hb5.mono hw4))
     have HBW5 := hid (HBW4.out.trans (hb5.mono HBW4.out.size))
     have HAX5 := hid (HAX.out.below hb5 hal)
     have HBX5 := hid (HBX4.out.below hb5 hbl4)
     clear hb5 HGR
     cases G with
     | false =>
      go_wp2
      go_roundg (gk - 1)
      case rel => exact ⟨p + 1, cv, uv, by go_num, by omega, hid (HBI.out.trans (HSA5.out.mono hwi)), hid (by
       rw [HSOp.out, HORI.out]
       simp only [Bool.false_eq_true, if_false, Option.toList_none, List.append_nil]
       exact HOR'.out.later HSA5.out (by omega))⟩
      case measure => omega
     | true =>
      have x0 := HAX5.out.cell 0 rfl
      have x1 := HAX5.out.cell 1 rfl
      have x2 := HAX5.out.cell 2 rfl
      have y0 := HBX5.out.cell 0 rfl
      have y1 := HBX5.out.cell 1 rfl
      have y2 := HBX5.out.cell 2 rfl
      go_wp2_with fail
      clear x0 x1 x2 y0 y1 y2
      with_reducible refine (HFI.out w5 HBW5.out).mono ?_
      rintro e w6 ⟨fv, rfl, hpo6, hb6⟩
      have hw6 := hb6.size
      have HSA6 := hid (HSA5.out.trans (hb6.mono (Nat.le_trans (by omega) hw5)))
      have HBW6 := hid (HBW5.out.trans (hb6.mono HBW5.out.size))
      have HAX6 := hid (HAX5.out.below hb6 HAX5.out.lt)
      clear hb6 HFI HBX5 HAX5
      cases F with
      | none =>
       obtain ⟨fa, fc, rfl⟩ := rdPo_len hpo6
       simp only [Option.isSome_none]
       go_wp2
       go_roundg (gk - 1)
       case rel => exact ⟨p + 1, cv, uv, by go_num, by omega, hid (HBI.out.trans (HSA6.out.mono hwi)), hid (by
        rw [HSOp.out, HORI.out]
        simp only [if_true, Option.map_none, Option.toList_none, List.append_nil]
        exact HOR'.out.later HSA6.out (by omega))⟩
       case measure => omega
      | some l =>
       have hpo : RdPo w6 (News w5 w6) fv l := hpo6
       obtain ⟨fa, fc, rfl⟩ := rdPo_len hpo
       have HPO := hid hpo
       clear hpo6 hpo
       simp only [Option.isSome_some]
       obtain ⟨ll, hll⟩ : ∃ ll, ll = l.length := ⟨_, rfl⟩
       rw [← hll] at HPO
       rw [← hll]
       clear hll
       have hst := HOR'.out.later (HSA6.out.trans ((Below.refl w6.heap.size w6).alloc (Nat.le_refl _) (.cells #[.int .i64 ia, .string na, .slice da la dk, .slice fa ll fc] 111) |>.mono HSA6.out.size)) (by omega)
       have HST := hid hst
       have hnew := BoxN.new w6 #[.int .i64 ia, .string na, .slice da la dk, .slice fa ll fc] 111
       have HNW := hid hnew
       have hrow := hst.row
       rw [HNN.out] at hrow
       have HROW := hid hrow
       have hrl := HOR'.out.row.lt
       have hz7 : (w6.alloc (.cells #[.int .i64 ia, .string na, .slice da la dk, .slice fa ll fc] 111)).heap.size = w6.heap.size + 1 := by simp
       have HRC := hid (HRA.out (w6.alloc (.cells #[.int .i64 ia, .string na, .slice da la dk, .slice fa ll fc] 111)) (HBW6.out.alloc HBW6.out.size _))
       have HRU : Hid (RdPo (w6.alloc (.cells #[.int .i64 ia, .string na, .slice da la dk, .slice fa ll fc] 111)) (Own (w6.alloc (.cells #[.int .i64 ia, .string na, .slice da la dk, .slice fa ll fc] 111)) W2.heap.size (.slice ya no yc)) (.slice fa ll fc) l) := hid ((HPO.out.keep fun p hp => World.cell?_alloc_lt _ _ _ hp.2).more fun b hb => ⟨by have := hb.1; omega, by have := hb.2; omega, fun e => by have h1 := (hrl b e).2; have h2 := hb.1; omega⟩)
       have HB7 := hid (HBI.out.trans ((HSA6.out.trans ((Below.refl w6.heap.size w6).alloc (Nat.le_refl _) (.cells #[.int .i64 ia, .string na, .slice da la dk, .slice fa ll fc] 111) |>.mono HSA6.out.size)).mono hwi))
       have x0 := HAX6.out.cell 0 rfl
       have x1 := HAX6.out.cell 1 rfl
       have x2 := HAX6.out.cell 2 rfl
       clear hst hnew hrow
       go_wp2_with (at_builtin; refine wpList_append_form _ rfl _ _ 108 108 rfl W2.heap.size 111 111 j0 (.agg #[.int .i64 0, .string ⟨#[]⟩, .slice none 0 0, .slice none 0 0]) 4 72 Tryz.underlying108 Tryz.underlying108 hj0 hy0 hy1 hy2 rfl (by decide) (.slice ya no yc) no _ rfl HROW.out (some ⟨_, 0, none⟩) 1 1 [.int .i64 ia, .string na, .slice da la dk, .slice fa ll fc] rfl rfl (fun _ => ⟨_, rfl, World.news_of_block HNW.out⟩) (by intro u hu; simp at hu; rcases hu with rfl | rfl | rfl | rfl <;> rfl) (by omega) (by unfold maxLen; omega) (by omega) (by simp; omega) ?_; intro p8 cap8 w8 hown8 hg8 hat8 hlt8; have HG8 := hid hg8; have HOWN8 := hid hown8; have HAT8 := hid hat8; clear hown8 hg8 hat8)
       go_wp2
       have hg8 := HG8.out
       have HB8 : Hid (Below W2.heap.size W2 w8) := hid (HB7.out.trans ⟨hg8.os, hg8.tape, hg8.output, hg8.size, fun k hk => hg8.block k (Nat.lt_of_lt_of_le hk HB7.out.size) (fun e => by have := (hrl k e.symm).1; omega)⟩)
       go_roundg (gk - 1)
       case rel => exact ⟨p + 1, _, _, by go_num, by omega, HB8, hid (by
        rw [HSOp.out, HORI.out]
        simp only [if_true, Option.map_some, Option.toList_some]
        exact HST.out.push (x := (⟨ia, na, xa⟩, l)) (n := no + 1) (by omega) (by rw [HNN.out]) (by rw [HNN.out]; exact HOWN8.out) HG8.out HAT8.out HRC.out HRU.out)⟩
       case measure => omega
    ·obtain rfl : gk = 0 := by omega
     obtain rfl : L = p := by omega
     rw [HFN.out] at HOR
     rw [HFN.out]
     have HORX : Hid (OrSt wr B W2.heap.size 111 (.slice ya (fromsL ts ⟨ib, nb, xb⟩).length yc) (fromsL ts ⟨ib, nb, xb⟩) cv uv) := HOR
     have hnf0 : (fromsL ts ⟨ib, nb, xb⟩).length ≤ 1048576 := by
      have h1 := List.length_filterMap_le (origO ⟨ib, nb, xb⟩) ts
      have h2 := HL.out
      unfold fromsL
      omega
     have hnl4 : ((ts.take q).filterMap (linkO ts)).length ≤ 1024 := by
      have h1 := List.length_filterMap_le (linkO ts) (ts.take q)
      have h2 := List.length_take_le q ts
      omega
     clear HOR HFN HSOb HALL
     generalize fromsL ts ⟨ib, nb, xb⟩ = FR at *
     generalize linkO ts ⟨ib, nb, xb⟩ = LO at *
     have HBXi := hid (HBX.out.below HBI.out hbl)
     obtain ⟨nf, hnf⟩ : ∃ nf, nf = FR.length := ⟨_, rfl⟩
     rw [← hnf] at HORX HLM
     rw [← hnf]
     have HNF := hid hnf.symm
     have hnf4 : nf ≤ 1048576 := by rw [hnf]; exact hnf0
     have hol := (HLK2.out.owns).elim fun _ h => h.lt
     have HLKX : Hid (LkSt W2 w1.heap.size 76 (.slice oa ((ts.take q).filterMap (linkO ts)).length oc) ((ts.take q).filterMap (linkO ts))) := HLK2
     generalize hnl : ((ts.take q).filterMap (linkO ts)).length = nl at *
     have HNL := hid hnl
     clear hnl hnf0
     clear hnf
     by_cases hf0 : nf = 0
     ·subst hf0
      have HLO : Hid (LO = none) := hid (HLN.out (List.eq_nil_of_length_eq_zero HNF.out))
      go_wp2
      go_roundg (go - 1)
      case rel => exact ⟨q + 1, by go_num, by omega, hid (HB.out.trans ((HSX.out.trans (HBI.out.mono hw2)).mono hwr)), hid (by
       rw [HSNq.out, HLO.out]
       simp only [Option.toList_none, List.append_nil]
       exact HLK2.out.later HBI.out (by omega))⟩
      case measure => omega
     ·have hfi : (0 : Int) < (nf : Int) := by omega
      have hfd : decide ((0 : Int) < (nf : Int)) = true := decide_eq_true hfi
      have hro := HORX.out.row
      rw [HNF.out] at hro
      have HMF := hid (lib_MinFunc FR cv uv (.slice ya nf yc) wr.heap.size wr ((inK_of_owns HORX.out.row).more fun b hb => (HORX.out.row.lt b hb).2) (by rw [HNF.out]; omega) (by rw [HNF.out]; exact hnf4)
       (fun i hi => (HORX.out.cols i hi).more fun b (hb : b < B) => by show b < wr.heap.size; omega) (fun i hi => rdPo_len (HORX.out.ops i hi)) (fun i hi => (HOSb.out _ (getD_mem hi Or.z)).1) (fun i hi => by have := (HOSb.out _ (getD_mem hi Or.z)).2; omega) (Nat.le_refl _))
      clear hro
      go_wp2_with fail
      with_reducible refine HMF.out.mono ?_
      rintro e w8 ⟨k, hk, hmk, rfl, hb8⟩
      obtain ⟨_, ⟨c1, cc1, ec, -⟩, -⟩ := HORX.out.cols k hk
      have hpk := HORX.out.ops k hk
      obtain ⟨u1, uc, eu⟩ := rdPo_len hpk
      have hw8 := hb8.size
      rw [HNF.out] at hk hmk
      have HLO := hid (HLM.out k hk hmk)
      have hrl := HORX.out.row.lt
      unfold orV
      rw [ec, eu]
      rw [eu] at hpk
      have HPK := hid ((hpk.keep fun p hp => hb8.cell (p := p) hp.2.1).more (S' := fun b => W2.heap.size ≤ b ∧ b < w8.heap.size) fun b hb => ⟨hb.1, by have := hb.2.1; omega⟩)
      have HBX8 := hid (HBXi.out.below hb8 HBXi.out.lt)
      have HB8 := hid (HBI.out.trans (hb8.mono hwi))
      clear hb8 HMF ec eu hmk hpk HLM HLN HORX HOSb
      generalize FR.getD k Or.z = X at *
      obtain ⟨⟨ik, nk, xk⟩, ok⟩ := X
      simp only at HLO HPK ⊢
      generalize xk.length = cl1 at *
      obtain ⟨ul, hul⟩ : ∃ ul, ul = ok.length := ⟨_, rfl⟩
      rw [← hul] at HPK
      rw [← hul]
      clear hul
      have hob := BoxN.new w8 #[.int .i64 ik, .string nk, .slice c1 cl1 cc1, .slice u1 ul uc] 111
      have hs9 := (Below.refl w8.heap.size w8).alloc (Nat.le_refl _) (.cells #[.int .i64 ik, .string nk, .slice c1 cl1 cc1, .slice u1 ul uc] 111)
      have hz9 : (w8.alloc (.cells #[.int .i64 ik, .string nk, .slice c1 cl1 cc1, .slice u1 ul uc] 111)).heap.size = w8.heap.size + 1 := by simp
      have HBX9 := hid (HBX8.out.below hs9 HBX8.out.lt)
      have hn10 := (BoxN.new (w8.alloc (.cells #[.int .i64 ik, .string nk, .slice c1 cl1 cc1, .slice u1 ul uc] 111)) #[.int .i64 ik, .int .i64 ib, .slice u1 ul uc] 76)
      rw [hz9] at hn10
      have HN10 := hid hn10
      clear hn10
      have hz10 : ((w8.alloc (.cells #[.int .i64 ik, .string nk, .slice c1 cl1 cc1, .slice u1 ul uc] 111)).alloc (.cells #[.int .i64 ik, .int .i64 ib, .slice u1 ul uc] 76)).heap.size = w8.heap.size + 2 := by simp
      have hs10 := hs9.alloc (by simp) (.cells #[.int .i64 ik, .int .i64 ib, .slice u1 ul uc] 76)
      have HS10 := hid (HB8.out.trans (hs10.mono HB8.out.size))
      have hlk10 := HLKX.out.later HS10.out (by omega)
      obtain ⟨L1, hL1⟩ := hlk10.owns
      rw [HNL.out] at hL1
      have HL1 := hid hL1
      have HLK10 := hid hlk10
      have hl8 := HB8.out.size
      have HPK10 : Hid (RdPo ((w8.alloc (.cells #[.int .i64 ik, .string nk, .slice c1 cl1 cc1, .slice u1 ul uc] 111)).alloc (.cells #[.int .i64 ik, .int .i64 ib, .slice u1 ul uc] 76)) (Own ((w8.alloc (.cells #[.int .i64 ik, .string nk, .slice c1 cl1 cc1, .slice u1 ul uc] 111)).alloc (.cells #[.int .i64 ik, .int .i64 ib, .slice u1 ul uc] 76)) w1.heap.size (.slice oa nl oc)) (.slice u1 ul uc) ok) := hid ((HPK.out.keep fun p hp => hs10.cell (p := p) hp.2).more fun b hb => ⟨by have := hb.1; omega, by have := hb.2; omega, fun e => by have h1 := (hol b e).2; have h2 := hb.1; omega⟩)
      have HB10 := hid (HB.out.trans ((HSX.out.trans (HS10.out.mono hw2)).mono hwr))
      have hL1l := hL1.lt
      have o0 := hob.cell 0 rfl
      have o3 := hob.cell 3 rfl
      have b0 := HBX9.out.cell 0 rfl
      clear hob hs9 hs10 hlk10 hL1
      go_wp2_with (at_builtin; refine wpList_append_form _ rfl _ _ 70 70 rfl w1.heap.size 76 76 j1 (.agg #[.int .i64 0, .int .i64 0, .slice none 0 0]) 3 40 Tryz.underlying70 Tryz.underlying70 hj1 hz0 hz1 hz2 rfl (by decide) (.slice oa nl oc) nl L1 rfl HL1.out (some ⟨_, 0, none⟩) 1 1 [.int .i64 ik, .int .i64 ib, .slice u1 ul uc] rfl rfl (fun _ => ⟨_, rfl, World.news_of_block HN10.out⟩) (by intro u hu; simp at hu; rcases hu with rfl | rfl | rfl <;> rfl) (by omega) (by unfold maxLen; omega) (by omega) (by simp; omega) ?_; intro p8 cap8 w11 hown8 hg8 hat8 hlt8; have HG8 := hid hg8; have HOWN8 := hid hown8; have HAT8 := hid hat8; clear hown8 hg8 hat8)
      go_wp2
      have hg8 := HG8.out
      have HB11 : Hid (Below w1.heap.size w1 w11) := hid (HB10.out.trans ⟨hg8.os, hg8.tape, hg8.output, hg8.size, fun k hk => hg8.block k (Nat.lt_of_lt_of_le hk HB10.out.size) (fun e => by have := (hL1l k e.symm).1; omega)⟩)
      go_roundg (go - 1)
      case rel => exact ⟨q + 1, by go_num, by omega, HB11, hid (by
       rw [HSNq.out, HLO.out]
       simp only [Option.toList_some]
       exact HLK10.out.push (L := L1) (by rw [HNL.out]; exact HL1.out) (x := ⟨ik, ib, ok⟩) (u := .slice u1 ul uc) (n := nl + 1) (by rw [HNL.out]) HOWN8.out HG8.out HAT8.out HPK10.out)⟩
      case measure => omega
  ·obtain rfl : gk = 0 := by omega
   obtain rfl : L = q := by omega
   have HLKE : Hid (LkSt wr w1.heap.size 76 (.slice oa ((ts.take L).filterMap (linkO ts)).length oc) ((ts.take L).filterMap (linkO ts))) := HLK
   rw [HALL2.out] at HLKE
   rw [HALL2.out]
   have HSRT := hid (lk_sort (linksL ts) w1.heap.size (.slice oa (linksL ts).length oc) wr HLKE.out HASC.out HLL.out)
   clear HLK HLKE hL0
   generalize (linksL ts).length = nl at *
   go_wp2_with fail
   with_reducible refine HSRT.out.mono ?_
   rintro e w9 ⟨rfl, hlk9, hb9⟩
   have HRD := hid (hlk9.read.more (S' := News w w9) fun b hb => ⟨Nat.le_trans hw1 hb.1, hb.2⟩)
   have HF9 := hid (HB1.out.trans ((HB.out.trans hb9).mono hw1))
   clear hlk9 hb9
   go_wp2
   refine bodyPost_ret (v := .tuple #[.slice oa nl oc, .int .i64 0]) (by simp [results, Tryz.results30, go_sem]) rfl ⟨_, rfl, HRD.out, HF9.out⟩
end Go.Proofs.YtaajpliifdlokaaGreatDoor

namespace Go.Proofs.YtaajpliifdlokaaGreatDoor
open Go.RowKit
theorem toL_at : ∀ {xs : List Lk} {id : Int} {i : Nat}, i < xs.length → (xs.getD i Lk.z).dst = id → (∀ j, j < i → (xs.getD j Lk.z).dst ≠ id) → toL xs id = some (xs.getD i Lk.z)
  | [], _, i, h, _, _ => by simp at h
  | x :: r, id, 0, _, h1, _ => by
    have h2 : x.dst = id := h1
    unfold toL
    rw [List.find?_cons_of_pos (by simp [h2])]
    rfl
  | x :: r, id, i + 1, h, h1, h2 => by
    have h3 : x.dst ≠ id := h2 0 (by omega)
    have h4 := toL_at (xs := r) (id := id) (i := i) (by simpa using h) h1 (fun j hj => h2 (j + 1) (by omega))
    unfold toL at *
    rw [List.find?_cons_of_neg (by simp [h3]), h4]
    rfl
theorem toL_out {xs : List Lk} {id : Int} (h : ∀ j, j < xs.length → (xs.getD j Lk.z).dst ≠ id) : toL xs id = none := by
  unfold toL
  rw [List.find?_eq_none]
  intro y hy
  obtain ⟨j, hj, rfl⟩ := List.getElem_of_mem hy
  have := h j hj
  simpa [List.getD, hj] using this
set_option maxHeartbeats 1000000 in
theorem to_one (s d z : Int) (a : Option Addr) (n c rb : Nat) (w : World) (h1 : w.cell? ⟨rb, 0, none⟩ = some (.int .i64 z)) :
    Calls Tryz.prog 160 #[.agg #[.int .i64 s, .int .i64 d, .slice a n c], .pointer (some ⟨rb, 0, none⟩)] w (Ret w (.bool (decide (d = z)))) := by
  have hrl := World.block_lt_of_cell? _ _ h1
  have n1 : (w.alloc (.cells #[.int .i64 s, .int .i64 d, .slice a n c] 76)).cell? ⟨rb, 0, none⟩ = some (.int .i64 z) := (World.cell?_alloc_lt _ _ _ hrl).trans h1
  have HB := hid ((Below.refl w.heap.size w).alloc (Nat.le_refl _) (.cells #[.int .i64 s, .int .i64 d, .slice a n c] 76))
  go_enter Tryz.func160, Tryz.ntmps160
  go_wp2
  go_ret
  exact ⟨ret_bool (by by_cases h : d = z <;> simp [h]), HB.out⟩
def IxP (w : World) (xs : List Lk) (id : Int) (e : Ending) (w' : World) : Prop :=
  Below w.heap.size w w' ∧ ((∃ i, i < xs.length ∧ (xs.getD i Lk.z).dst = id ∧ (∀ j, j < i → (xs.getD j Lk.z).dst ≠ id) ∧ e = .returned (.int .i64 (i : Int))) ∨ ((∀ j, j < xs.length → (xs.getD j Lk.z).dst ≠ id) ∧ e = .returned (.int .i64 (-1))))
set_option maxRecDepth 100000 in
set_option maxHeartbeats 1000000 in
theorem index_links (v : Value) (xs : List Lk) (B rb : Nat) (id : Int) (w : World) (hl : xs.length ≤ 1048576) (hv : RdLk w (· < B) v xs) (hB : B ≤ w.heap.size) (h1 : w.cell? ⟨rb, 0, none⟩ = some (.int .i64 id)) :
  Calls Tryz.prog 159 #[v, .func (.func 160) #[] #[.pointer (some ⟨rb, 0, none⟩)]] w (IxP w xs id) := by
 obtain ⟨va, vc, rfl, -, hvm⟩ := rdLk_len hv
 have hrl := World.block_lt_of_cell? _ _ h1
 have HV := hid hv
 have HF := hid (fun s d a n c W (hW : Below w.heap.size w W) => to_one s d id a n c rb W ((hW.cell (p := ⟨rb, 0, none⟩) hrl).trans h1))
 unfold IxP
 clear hv h1
 generalize hxl : xs.length = L at *
 have HXL := hid hxl
 clear hxl
 go_enter Tryz.func159, Tryz.ntmps159
 go_wp2_with fail
 go_loopg [8] L (fun N u wr => ∃ q : Nat, q + N = L ∧ u = .int .i64 (q : Int) ∧ Hid (Below w.heap.size w wr) ∧ Hid (∀ j, j < q → (xs.getD j Lk.z).dst ≠ id))
 case atStart => exact ⟨0, by omega, rfl, hid (Below.refl _ _), hid (fun j h => absurd h (by omega))⟩
 case round =>
  obtain ⟨q, hq, rfl, HB, HNE⟩ := hrel
  have hwz := HB.out.size
  by_cases hp : 0 < gk
  ·have hqL : q < L := by omega
   obtain ⟨b, o, c3, u, e3, hb, hpo, k0, k1, k2⟩ := lk_at (HV.out.keep (w' := wr) fun p (hp : p.block < B) => HB.out.cell (p := p) (by omega)) (q := q) (by rw [HXL.out]; exact hqL)
   rw [HXL.out] at e3
   obtain ⟨rfl, -, rfl⟩ := Value.slice.inj e3
   obtain ⟨ua, uc, rfl⟩ := rdPo_len hpo
   have HFQ := hid (HF.out (xs.getD q Lk.z).src (xs.getD q Lk.z).dst ua (xs.getD q Lk.z).ops.length uc wr HB.out)
   have hqi : (q : Int) < (L : Int) := by omega
   clear e3 hb hpo
   by_cases hd : (xs.getD q Lk.z).dst = id
   ·have HD := hid hd
    rw [decide_eq_true hd] at HFQ
    clear hd
    generalize hY : xs.getD q Lk.z = Y at *
    obtain ⟨ys, yd, yo⟩ := Y
    have HY := hid hY
    clear hY
    simp only at k0 k1 k2 HFQ HD
    generalize yo.length = l at *
    go_wp2_with fail
    with_reducible refine HFQ.out.mono ?_
    rintro e w6 ⟨rfl, hb6⟩
    have HB6 := hid (HB.out.trans (hb6.mono hwz))
    clear hb6 k0 k1 k2
    go_wp2
    go_ret
    exact ⟨HB6.out, .inl ⟨q, hqL, by rw [HY.out]; exact HD.out, by simpa using HNE.out, rfl⟩⟩
   ·have HD := hid hd
    rw [decide_eq_false hd] at HFQ
    clear hd
    have HN2 : Hid (∀ j, j < q + 1 → (xs.getD j Lk.z).dst ≠ id) := hid (fun j hj => by
     rcases Nat.lt_or_ge j q with h1 | h1
     ·exact HNE.out j h1
     ·obtain rfl : j = q := by omega
      exact HD.out)
    clear HD
    generalize xs.getD q Lk.z = Y at *
    obtain ⟨ys, yd, yo⟩ := Y
    simp only at k0 k1 k2 HFQ
    generalize yo.length = l at *
    go_wp2_with fail
    with_reducible refine HFQ.out.mono ?_
    rintro e w6 ⟨rfl, hb6⟩
    have HB6 := hid (HB.out.trans (hb6.mono hwz))
    clear hb6 k0 k1 k2
    go_wp2_with fail
    go_roundg (gk - 1)
    case rel => exact ⟨q + 1, by omega, by go_num, HB6, HN2⟩
    case measure => omega
  ·obtain rfl : gk = 0 := by omega
   obtain rfl : L = q := by omega
   go_wp2
   go_ret
   exact ⟨HB.out, .inr ⟨by simpa using HNE.out, rfl⟩⟩
def ToP (w : World) (S : Nat → Prop) (xs : List Lk) (id : Int) (e : Ending) (w' : World) : Prop :=
  Below w.heap.size w w' ∧ match toL xs id with
    | none => e = .returned (.tuple #[.agg #[.int .i64 0, .int .i64 0, .slice none 0 0], .bool false])
    | some y => ∃ a c, e = .returned (.tuple #[.agg #[.int .i64 y.src, .int .i64 y.dst, .slice a y.ops.length c], .bool true]) ∧ RdPo w S (.slice a y.ops.length c) y.ops
set_option maxRecDepth 100000 in
set_option maxHeartbeats 1000000 in
theorem lin_to (v : Value) (xs : List Lk) (B : Nat) (id : Int) (w : World) (hl : xs.length ≤ 1048576) (hv : RdLk w (· < B) v xs) (hB : B ≤ w.heap.size) :
  Calls Tryz.prog 98 #[v, .int .i64 id] w (ToP w (· < B) xs id) := by
 have hv' := hv
 obtain ⟨va, vc, rfl, hvl, hvm⟩ := rdLk_len hv'
 have HV := hid hv
 have hx := (BoxN.new w #[.int .i64 id] 3).alloc (.cells #[.int .i64 0, .int .i64 0, .slice none 0 0] 76)
 have hy := BoxN.new (w.alloc (.cells #[.int .i64 id] 3)) #[.int .i64 0, .int .i64 0, .slice none 0 0] 76
 rw [World.size_alloc] at hy
 have HB0 := hid (((Below.refl w.heap.size w).alloc (Nat.le_refl _) (.cells #[.int .i64 id] 3)).alloc (by simp) (.cells #[.int .i64 0, .int .i64 0, .slice none 0 0] 76))
 have HIX := hid (index_links (.slice va xs.length vc) xs B w.heap.size id _ hl (hv.keep fun p (hp : p.block < B) => HB0.out.cell (p := p) (by omega)) (Nat.le_trans hB HB0.out.size) (hx.cell 0 rfl))
 have HY := hid hy
 have HTA := hid (fun i => @toL_at xs id i)
 have HTO := hid (@toL_out xs id)
 unfold ToP
 clear hv hv' hx hy
 generalize toL xs id = T at *
 unfold IxP at HIX
 generalize hxl : xs.length = L at *
 have HXL := hid hxl
 clear hxl
 go_enter Tryz.func98, Tryz.ntmps98
 go_wp2_with fail
 with_reducible refine HIX.out.mono ?_
 generalize (w.alloc (.cells #[.int .i64 id] 3)).alloc (.cells #[.int .i64 0, .int .i64 0, .slice none 0 0] 76) = W0 at *
 have hw0 := HB0.out.size
 rintro e w1 ⟨hb1, ⟨i, hi, hd, hne, rfl⟩ | ⟨hne, rfl⟩⟩
 ·have hT := HTA.out i hi hd hne
  subst hT
  have HB1 := hid (HB0.out.trans (hb1.mono hw0))
  have hy1 := HY.out.below hb1 HY.out.lt
  obtain ⟨b, o, c3, u, e3, hb, hpo, k0, k1, k2⟩ := lk_at (HV.out.keep (w' := w1) fun p (hp : p.block < B) => HB1.out.cell (p := p) (by omega)) (q := i) (by rw [HXL.out]; exact hi)
  rw [HXL.out] at e3
  obtain ⟨rfl, -, rfl⟩ := Value.slice.inj e3
  obtain ⟨ua, uc, rfl⟩ := rdPo_len hpo
  have hpo2 : RdPo w (· < B) (.slice ua (xs.getD i Lk.z).ops.length uc) (xs.getD i Lk.z).ops := hpo.keep fun p (hp : p.block < B) => (HB1.out.cell (p := p) (by omega)).symm
  have HPO := hid hpo2
  have hii : (i : Int) < (L : Int) := by omega
  have hi0 : ¬ (i : Int) < 0 := by omega
  have y0 := hy1.cell 0 rfl
  have y1 := hy1.cell 1 rfl
  have y2 := hy1.cell 2 rfl
  have z0 := hy1.frozen 0
  have z1 := hy1.frozen 1
  have z2 := hy1.frozen 2
  clear e3 hb hpo hpo2 hd hne HTA HTO HIX
  generalize hYE : xs.getD i Lk.z = Y at *
  obtain ⟨ys, yd, yo⟩ := Y
  have HYE := hid hYE
  clear hYE
  simp only at k0 k1 k2 HPO ⊢
  generalize hol : yo.length = l at *
  have HOL := hid hol
  clear hol hy1 hb1
  go_wp2
  refine bodyPost_ret (v := .tuple #[.agg #[.int .i64 ys, .int .i64 yd, .slice ua l uc], .bool true]) (by simp [results, Tryz.results98, go_sem, y0, y1, y2]) rfl ⟨?_, ua, uc, by have h1 := HYE.out; have h2 := HOL.out; rw [List.getD_eq_getElem?_getD] at h1; rw [h1, ← h2], by have h1 := HYE.out; have h2 := HOL.out; rw [List.getD_eq_getElem?_getD] at h1; rw [h1]; simp only; rw [h2]; exact HPO.out⟩
  exact (((HB1.out.setCell (p := ⟨w.heap.size + 1, 0, none⟩) (by show w.heap.size ≤ w.heap.size + 1; omega) _).setCell (p := ⟨w.heap.size + 1, 1, none⟩) (by show w.heap.size ≤ w.heap.size + 1; omega) _).setCell (p := ⟨w.heap.size + 1, 2, none⟩) (by show w.heap.size ≤ w.heap.size + 1; omega) _)
 ·have hT := HTO.out hne
  subst hT
  have HB1 := hid (HB0.out.trans (hb1.mono hw0))
  have hy1 := HY.out.below hb1 HY.out.lt
  have y0 := hy1.cell 0 rfl
  have y1 := hy1.cell 1 rfl
  have y2 := hy1.cell 2 rfl
  have z0 := hy1.frozen 0
  have z1 := hy1.frozen 1
  have z2 := hy1.frozen 2
  clear hne HTA HTO HIX hy1 hb1
  go_wp2
  refine bodyPost_ret (v := .tuple #[.agg #[.int .i64 0, .int .i64 0, .slice none 0 0], .bool false]) (by simp [results, Tryz.results98, go_sem, y0, y1, y2]) rfl ⟨?_, rfl⟩
  exact (((HB1.out.setCell (p := ⟨w.heap.size + 1, 0, none⟩) (by show w.heap.size ≤ w.heap.size + 1; omega) _).setCell (p := ⟨w.heap.size + 1, 1, none⟩) (by show w.heap.size ≤ w.heap.size + 1; omega) _).setCell (p := ⟨w.heap.size + 1, 2, none⟩) (by show w.heap.size ≤ w.heap.size + 1; omega) _)
end Go.Proofs.YtaajpliifdlokaaGreatDoor
