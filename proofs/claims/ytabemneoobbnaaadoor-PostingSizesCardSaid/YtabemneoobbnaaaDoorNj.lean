/- Contracts of the dice's Index, and of posting.Sizes. -/
import Derived.Test.YtabemneoobbnaaaDoorNi
import Derived.Test.YtabemneoobbnaaaDoorXa
namespace Go.Proofs.YtabemneoobbnaaaDoor
open Go.RowKit

def IndexR (w : World) (g : Nat) (e : Ending) (w' : World) : Prop :=
  ∃ (ts : List Ta) (ev vv lv : Value), e = .returned (.agg #[ev, vv, lv]) ∧ ListOk 4 4 7 ts ∧ RdIx w' (News w w') ev vv lv (indexOf (cvsL ts)) ∧ DiceAt 48 w' g ∧ Roll w.heap.size g w w'

set_option maxHeartbeats 1000000 in
theorem dice_Index (g : Nat) (w0 w : World) (hd : DiceAt 48 w g) (hT : Tabs w0) (h0 : Below w0.heap.size w0 w) (hg0 : w0.heap.size ≤ g) :
    Calls Tryd.prog 6 #[.pointer (some ⟨g, 0, none⟩)] w (IndexR w g) := by
  have hgl := hd.lt
  have HD := hid hd
  have HT := hid hT
  have H0 := hid h0
  clear hd hT h0
  go_enter Tryd.func6, Tryd.ntmps6
  go_wp2_with fail
  have hd0 := HD.out.alloc (.cells #[.slice none 0 0, .slice none 0 0, .slice none 0 0] 30)
  have HR0 := hid ((Roll.refl w.heap.size g w).alloc (Nat.le_refl _) (.cells #[.slice none 0 0, .slice none 0 0, .slice none 0 0] 30))
  have HX0 := hid (BoxN.new w #[.slice none 0 0, .slice none 0 0, .slice none 0 0] 30)
  have hz0 : (w.alloc (.cells #[.slice none 0 0, .slice none 0 0, .slice none 0 0] 30)).heap.size = w.heap.size + 1 := by simp
  have hLL := dice_List g 4 4 7 _ hd0 (by omega) (by omega) (by omega)
  rw [show (((4 : Nat)) : Int) = 4 from rfl, show (((7 : Nat)) : Int) = 7 from rfl] at hLL
  with_reducible refine hLL.mono ?_
  clear hLL
  clear hd0
  generalize w.alloc (.cells #[.slice none 0 0, .slice none 0 0, .slice none 0 0] 30) = W0 at *
  rintro e w1 ⟨ts, a, c, rfl, hrd, hok, hd1, hr1⟩
  have HX1 := hid (HX0.out.roll hr1 (by omega) (by omega))
  have HR1 := hid (HR0.out.trans (hr1.mono (by omega)))
  have HD1 := hid hd1
  have hT1 : Tabs w1 := HT.out.below (H0.out.trans (HR1.out.below hg0 (H0.out.size)))
  have HB := hid (ref_Build _ ts w1.heap.size w1 (listV_of hok (by omega) (by omega) (by omega)) (hrd.more fun b hb => hb.2) (Nat.le_refl _) hT1)
  have HOK := hid hok
  have hz1 := hr1.size
  clear hrd hok hd1 hr1 hT1
  generalize ts.length = L at *
  go_wp2_with fail
  with_reducible refine HB.out.mono ?_
  rintro e w2 ⟨ev, vv, lv, rfl, hrx, hb2⟩
  have HX2 := hid (HX1.out.below hb2 HX1.out.lt)
  have HR2 := hid (HR1.out.trans ((Roll.of_below hb2 g).mono HR1.out.size))
  have HD2 := hid (HD1.out.below hb2 HD1.out.lt)
  have HRX := hid hrx
  have hz2 := hb2.size
  have hx2z := HX2.out.lt
  obtain ⟨ea, ec, rfl, -⟩ := hrx.ents
  obtain ⟨va', vc', rfl, -⟩ := hrx.vals
  obtain ⟨lf, ⟨la, lc, rfl, -⟩, -⟩ := hrx.lists
  clear hrx hb2
  generalize hn1 : (indexOf (cvsL ts)).ents.length = n1 at *
  generalize hn2 : (indexOf (cvsL ts)).vals.length = n2 at *
  generalize hn3 : (indexOf (cvsL ts)).lists.length = n3 at *
  clear hn1 hn2 hn3
  have HF := hid ((HX2.out.alloc (.cells #[.slice ea n1 ec, .slice va' n2 vc', .slice la n3 lc] 30)))
  have c0 := HX2.out.cell 0 rfl
  have c1 := HX2.out.cell 1 rfl
  have c2 := HX2.out.cell 2 rfl
  have f0 := HX2.out.frozen 0
  have f1 := HX2.out.frozen 1
  have f2 := HX2.out.frozen 2
  have hbF := ((((HX2.out.set 0 (.slice ea n1 ec)).set 1 (.slice va' n2 vc')).set 2 (.slice la n3 lc)).alloc (.cells #[.slice ea n1 ec, .slice va' n2 vc', .slice la n3 lc] 30))
  have D0 := hid (hbF.cell 0 rfl)
  have D1 := hid (hbF.cell 1 rfl)
  have D2 := hid (hbF.cell 2 rfl)
  clear hbF
  go_wp2
  have d0 := D0.out
  have d1 := D1.out
  have d2 := D2.out
  have hbw : Below w.heap.size w2 ((((w2.setCell ⟨w.heap.size, 0, none⟩ (.slice ea n1 ec)).setCell ⟨w.heap.size, 1, none⟩ (.slice va' n2 vc')).setCell ⟨w.heap.size, 2, none⟩ (.slice la n3 lc)).alloc (.cells #[.slice ea n1 ec, .slice va' n2 vc', .slice la n3 lc] 30)) := by
    have := Below.refl w.heap.size w2
    repeat' (first | (with_reducible exact Below.refl _ _) | (with_reducible assumption) | (with_reducible refine below_drewN ?_) | (with_reducible refine Below.alloc ?_ ?_ _) | (with_reducible refine Below.drew ?_) | (with_reducible refine Below.setCell ?_ ?_ _) | (with_reducible refine Below.trans ?_ (Below.mono (by with_reducible assumption) ?_)) | go_size)
  refine bodyPost_ret (v := .agg #[.slice ea n1 ec, .slice va' n2 vc', .slice la n3 lc]) (by simp [results, Tryd.results6, go_sem, d0, d1, d2]) rfl ⟨ts, _, _, _, rfl, HOK.out, ?_, HD2.out.below hbw hgl, HR2.out.trans (Roll.of_below hbw g)⟩
  refine (HRX.out.keep fun p hp => ?_).more fun b hb => ⟨by have := hb.1; omega, by have := hb.2; simp; omega⟩
  have h1 := hp.1
  have h2 := hp.2
  rw [World.cell?_alloc_lt _ _ _ (by simp; omega), World.cell?_setCell_other _ _ _ _ (by intro e; subst e; simp at h1; omega), World.cell?_setCell_other _ _ _ _ (by intro e; subst e; simp at h1; omega), World.cell?_setCell_other _ _ _ _ (by intro e; subst e; simp at h1; omega)]

/-- the sizes of the columns of an index -/
def sizeZ (es : List ((Int × Nat) × Nat)) : List Int := es.map fun e => (e.2 : Int)
theorem sizeZ_at {es : List ((Int × Nat) × Nat)} {i : Nat} (h : i < es.length) : (sizeZ es).getD i 0 = ((es.getD i ((0, 0), 0)).2 : Int) := by simp [sizeZ, List.getD, h]

def GivesN (w : World) (xs : List Nat) (e : Ending) (w' : World) : Prop :=
  ∃ a c, e = .returned (.slice a xs.length c) ∧ InN w' (News w w') (.slice a xs.length c) xs ∧ Below w.heap.size w w'

set_option maxRecDepth 100000 in
set_option maxHeartbeats 1000000 in
theorem posting_Sizes (ev : Value) (va la : Option Addr) (n2 vc n3 lc : Nat) (es : List ((Int × Nat) × Nat)) (low high : Int) (B : Nat) (w : World) (hv : InK 3 w (· < B) ev es.length (entF es)) (hB : B ≤ w.heap.size) (hl : es.length ≤ 65536) :
    Calls Tryd.prog 7 #[.agg #[ev, .slice va n2 vc, .slice la n3 lc], .int .i64 low, .int .i64 high] w (GivesN w (sizesL (sizeZ es) low high)) := by
  obtain ⟨a, k, rfl, hk, hm, hrd⟩ := hv
  obtain ⟨m0, hm0, hu0, hu1, hu2⟩ := info_parts info_int'
  have HRD := hid hrd
  have HSU := hid (sizesK_succ (sizeZ es) low high)
  have HSL := hid (sizesK_len (sizeZ es) low high)
  have HAT := hid (fun i h => @sizeZ_at es i h)
  have HFIN : Hid (sizesL (sizeZ es) low high = sizesK (sizeZ es) low high es.length) := hid (by rw [← sizesK_all]; simp [sizeZ])
  clear hrd
  generalize sizesL (sizeZ es) low high = F at *
  generalize hcl : es.length = L at *
  have HCL := hid hcl
  clear hcl
  unfold maxLen at hm
  go_enter Tryd.func7, Tryd.ntmps7
  go_wp2_with fail
  go_loopg [7, 13] L (fun N v i wr => ∃ q : Nat, q + N = L ∧ i = .int .i64 (q : Int) ∧ Hid (Below w.heap.size w wr ∧ wr.ownsRow w.heap.size 3 1 v (sizesK (sizeZ es) low high q).length (natsV (sizesK (sizeZ es) low high q))))
  case atStart => exact ⟨0, by omega, rfl, hid ⟨by have := Below.refl w.heap.size w; repeat' (first | (with_reducible exact Below.refl _ _) | (with_reducible assumption) | (with_reducible refine below_drewN ?_) | (with_reducible refine Below.alloc ?_ ?_ _) | (with_reducible refine Below.drew ?_) | (with_reducible refine Below.setCell ?_ ?_ _) | (with_reducible refine Below.trans ?_ (Below.mono (by with_reducible assumption) ?_)) | go_size), World.ownsRow_nil _ _ _ _⟩⟩
  case round =>
    obtain ⟨q, hq, rfl, HST⟩ := hrel
    obtain ⟨a3, c3, rfl⟩ := own_slice HST.out.2
    have hsl := HSL.out q
    by_cases hp : 0 < gk
    · obtain ⟨b, o, rfl, hb, hcell⟩ := HRD.out (by omega)
      have hb' : b < B := hb
      have hbw : b < w.heap.size := by omega
      have hwz := HST.out.1.size
      have k0 : wr.cell? ⟨b, o + q * 3, none⟩ = some (.int .i64 (es.getD q ((0, 0), 0)).1.1) := (HST.out.1.cell (p := ⟨b, o + q * 3, none⟩) hbw).trans (hcell q (by omega) 0 (by omega))
      have k1 : wr.cell? ⟨b, o + q * 3 + 1, none⟩ = some (.int .i64 ((es.getD q ((0, 0), 0)).1.2 : Int)) := (HST.out.1.cell (p := ⟨b, o + q * 3 + 1, none⟩) hbw).trans (hcell q (by omega) 1 (by omega))
      have k2 : wr.cell? ⟨b, o + q * 3 + 2, none⟩ = some (.int .i64 ((es.getD q ((0, 0), 0)).2 : Int)) := (HST.out.1.cell (p := ⟨b, o + q * 3 + 2, none⟩) hbw).trans (hcell q (by omega) 2 (by omega))
      have HSQ := HSU.out q
      rw [HAT.out q (by have := HCL.out; omega)] at HSQ
      have HSQ' := hid HSQ
      clear hcell HSQ
      generalize es.getD q ((0, 0), 0) = en at *
      obtain ⟨⟨ti, ki⟩, sz⟩ := en
      simp only at k0 k1 k2
      generalize hcur : sizesK (sizeZ es) low high q = cur at *
      clear hcur
      have HOE := hid (HST.out.2.alloc (.cells #[.int .i64 ti, .int .i64 (ki : Int), .int .i64 (sz : Int)] 37))
      have HBE := hid (HST.out.1.alloc hwz (.cells #[.int .i64 ti, .int .i64 (ki : Int), .int .i64 (sz : Int)] 37))
      have hz3 : wr.heap.size < (wr.alloc (.cells #[.int .i64 ti, .int .i64 (ki : Int), .int .i64 (sz : Int)] 37)).heap.size := by simp
      generalize hn5 : cur.length = n5 at *
      have HN5 := hid hn5
      clear hn5
      by_cases hin : low ≤ (sz : Int) ∧ (sz : Int) ≤ high
      · obtain ⟨h1, h2⟩ := hin
        have HEQ : Hid (sizesK (sizeZ es) low high (q + 1) = cur ++ [q]) := hid (by rw [HSQ'.out, if_pos ⟨h1, h2⟩])
        go_wp2_with (at_builtin; refine wpList_append_form _ rfl _ _ 32 32 rfl w.heap.size 3 3 m0 (.int .i64 0) 1 8 Tryd.underlying32 Tryd.underlying32 hm0 hu0 hu1 hu2 rfl (by decide) (.slice a3 n5 c3) n5 (natsV cur) rfl (HOE.out.alloc _) (some ⟨_, 0, none⟩) 1 1 [.int .i64 (q : Int)] rfl rfl (fun _ => ⟨_, rfl, cell_one_at _ _ (by simp)⟩) (by intro u hu; simp at hu; subst hu; rfl) (by omega) (by unfold maxLen; omega) (by omega) (by simp; omega) ?_; intro p9 cap9 w9 hown9 hg9 hat9 hlt9; have HOWN9 := hid hown9; have HG9 := hid ((World.grownBy_alloc _ _ _).trans hg9); clear hown9 hg9 hat9)
        have HB5 : Hid (Below w.heap.size w w9) := hid (HBE.out.grown HG9.out HBE.out.size (fun k hk => (HOE.out.lt k hk).1))
        go_wp2
        go_roundg (gk - 1)
        case rel => exact ⟨q + 1, by omega, by go_num, hid ⟨HB5.out, by rw [HEQ.out, List.length_append, List.length_singleton, HN5.out]; have := HOWN9.out; rw [show natsV cur ++ [.int .i64 (q : Int)] = natsV (cur ++ [q]) by simp [natsV]] at this; exact this⟩⟩
        case measure => omega
      · have HEQ : Hid (sizesK (sizeZ es) low high (q + 1) = cur) := hid (by rw [HSQ'.out, if_neg hin, List.append_nil])
        by_cases h1 : low ≤ (sz : Int)
        · have h2 : ¬ ((sz : Int) ≤ high) := fun h => hin ⟨h1, h⟩
          clear hin
          go_wp2
          go_roundg (gk - 1)
          case rel => exact ⟨q + 1, by omega, by go_num, hid ⟨HBE.out, by rw [HEQ.out, HN5.out]; exact HOE.out⟩⟩
          case measure => omega
        · clear hin
          go_wp2
          go_roundg (gk - 1)
          case rel => exact ⟨q + 1, by omega, by go_num, hid ⟨HBE.out, by rw [HEQ.out, HN5.out]; exact HOE.out⟩⟩
          case measure => omega
    · obtain rfl : q = L := by omega
      have HFI : Hid (GivesN w F (.returned (.slice a3 (sizesK (sizeZ es) low high q).length c3)) wr) := hid (by
        rw [HFIN.out]
        exact ⟨a3, c3, rfl, (inN_of_own HST.out.2).more fun b hb => HST.out.2.lt b hb, HST.out.1⟩)
      generalize (sizesK (sizeZ es) low high q).length = n5 at *
      go_wp2
      go_ret
      exact HFI.out

end Go.Proofs.YtabemneoobbnaaaDoor
