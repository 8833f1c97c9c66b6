/- The walk of LineageAlone. -/
import Derived.Deep.Cut
import Derived.Deep.RegionLawGrows
import Derived.Test.YtfmlpaplnkohpaaGreatDoorLnBbj
import Derived.Test.YtfmlpaplnkohpaaGreatDoorLnBbu
import Derived.Test.YtfmlpaplnkohpaaGreatDoorLnBbq
import Derived.Test.YtfmlpaplnkohpaaGreatDoorLnBbr
set_option linter.unusedVariables false
set_option linter.unusedSimpArgs false
namespace Go.Proofs.YtfmlpaplnkohpaaGreatDoor
open Go.RowKit
theorem nmA_at {q : Nat} (h : q < 3) : (#[.string ⟨#[112]⟩, .string ⟨#[113]⟩, .string ⟨#[114]⟩, .string ⟨#[115]⟩] : Array Value)[q]? = some (.string (nmA.getD q ⟨#[]⟩)) := by
  rcases (show q = 0 ∨ q = 1 ∨ q = 2 by omega) with rfl | rfl | rfl <;> rfl
theorem nmB_at {q : Nat} (h : q < 3) : (#[.string ⟨#[119]⟩, .string ⟨#[120]⟩, .string ⟨#[121]⟩, .string ⟨#[122]⟩] : Array Value)[q]? = some (.string (nmB.getD q ⟨#[]⟩)) := by
  rcases (show q = 0 ∨ q = 1 ∨ q = 2 by omega) with rfl | rfl | rfl <;> rfl
set_option maxRecDepth 100000 in
set_option maxHeartbeats 8000000 in
theorem law39_alone (a : Option Addr) (n c : Nat) (w : World) (hA : RdI w w.heap.size a n c) (hT : Tabs w) (hP : Pow w) :
    Calls Tryz.prog 9 #[.slice a n c] w (Ret w (.bool true)) := by
  have HA := hid hA
  have HT := hid hT
  have HP := hid hP
  have hnm : n ≤ maxLen := Nat.le_trans hA.1 hA.2.1
  have HAW := hid (fun W (hW : Below w.heap.size w W) => law39_awake W (hT.below hW))
  clear hA hT hP
  by_cases hg : n ≤ 500
  · have HLI := hid (kit_Light a n c w hnm)
    rw [decide_eq_true hg] at HLI
    go_enter Tryz.func9, Tryz.ntmps9
    generalize hLA : Code.loop _ = LA
    go_wp2_with fail
    with_reducible refine HLI.out.mono ?_
    rintro e w0 ⟨rfl, rfl⟩
    clear HLI
    go_wp2_with fail
    with_reducible refine (kit_Roll a n c _ HA.out hg HP.out).mono ?_
    rintro e w1 ⟨rfl, hd1, hb1⟩
    have hz1 := hd1.lt
    have HB1 := hid hb1
    have HKT : Hid (Calls Tryz.prog 14 #[.pointer (some ⟨w.heap.size, 0, none⟩), .int .i64 1] w1 (KTab w1 w.heap.size 1)) := hid (kit_Table w.heap.size 1 w1 hd1)
    clear hd1 hb1
    go_wp2_with fail
    with_reducible refine HKT.out.mono ?_
    rintro e w2 ⟨⟨id, nm, xs⟩, v, rfl, hid1, hok, hco, hd2, hr2⟩
    simp only at hid1 hok hco
    subst hid1
    have hz2 := hr2.size
    have HKT2 : Hid (Calls Tryz.prog 14 #[.pointer (some ⟨w.heap.size, 0, none⟩), .int .i64 2] w2 (KTab w2 w.heap.size 2)) := hid (kit_Table w.heap.size 2 w2 hd2)
    have HB2 := hid (HB1.out.trans (hr2.below (B' := w.heap.size) (Nat.le_refl _) (by omega)))
    have HOK := hid hok
    have HCO := hid hco
    obtain ⟨va, vc, rfl⟩ := rdCo_len hco.read
    clear hd2 hr2 hok hco HKT
    go_wp2_with fail
    with_reducible refine HKT2.out.mono ?_
    rintro e w3 ⟨⟨id2, nm2, ys⟩, v2, rfl, hid2, hok2, hco2, hd3, hr3⟩
    simp only at hid2 hok2 hco2
    subst hid2
    have hz3 := hr3.size
    have HB3 := hid (HB2.out.trans (hr3.below (B' := w.heap.size) (Nat.le_refl _) (by omega)))
    obtain ⟨va2, vc2, rfl⟩ := rdCo_len hco2.read
    have HOK2 := hid hok2
    have hl3 : xs.length ≤ 3 := HOK.out.2.1
    have hm3 : ys.length ≤ 3 := hok2.2.1
    obtain ⟨cvA, hnA⟩ := HCO.out
    obtain ⟨cvB, hnB⟩ := hco2
    obtain ⟨ga, hgad⟩ : ∃ ga, ga = (Value.slice va xs.length vc).ownBlock.getD w.heap.size := ⟨_, rfl⟩
    obtain ⟨gb, hgbd⟩ : ∃ gb, gb = (Value.slice va2 ys.length vc2).ownBlock.getD w.heap.size := ⟨_, rfl⟩
    have hga1 : ga = w.heap.size ∨ (w1.heap.size ≤ ga ∧ ga < w2.heap.size) := by
      rcases e : (Value.slice va xs.length vc).ownBlock with _ | k
      · rw [e] at hgad; exact .inl hgad
      · rw [e] at hgad; have := hnA.row.lt k e; exact .inr (by rw [hgad]; exact this)
    have hgb1 : gb = w.heap.size ∨ (w2.heap.size ≤ gb ∧ gb < w3.heap.size) := by
      rcases e : (Value.slice va2 ys.length vc2).ownBlock with _ | k
      · rw [e] at hgbd; exact .inl hgbd
      · rw [e] at hgbd; have := hnB.row.lt k e; exact .inr (by rw [hgbd]; exact this)
    have HXAG : Hid (∀ b, va = some ⟨b, 0, none⟩ → ga = b) := hid fun b e => by rw [hgad, e]; rfl
    have HXBG : Hid (∀ b, va2 = some ⟨b, 0, none⟩ → gb = b) := hid fun b e => by rw [hgbd, e]; rfl
    have HXAG2 : Hid (∀ b, va = some ⟨b, 0, none⟩ → w1.heap.size ≤ b ∧ b < w2.heap.size) := hid fun b e => hnA.row.lt b (by rw [e]; rfl)
    have HXBG2 : Hid (∀ b, va2 = some ⟨b, 0, none⟩ → w2.heap.size ≤ b ∧ b < w3.heap.size) := hid fun b e => hnB.row.lt b (by rw [e]; rfl)
    have HXAL : Hid (∀ b, (Value.slice va xs.length vc).ownBlock = some b → w1.heap.size ≤ b ∧ b < w2.heap.size) := hid fun b e => hnA.row.lt b e
    have HXBL : Hid (∀ b, (Value.slice va2 ys.length vc2).ownBlock = some b → w2.heap.size ≤ b ∧ b < w3.heap.size) := hid fun b e => hnB.row.lt b e
    have HKA : Hid (∀ i, i < xs.length → RdCl w2 (fun k => w1.heap.size ≤ k ∧ k < w2.heap.size ∧ k ≠ ga) (cvA i) (xs.getD i Co.z).cells) := hid fun i hi => (hnA.kids i hi).more fun k hk => ⟨hk.1, hk.2.1, fun e => by
      rcases e2 : (Value.slice va xs.length vc).ownBlock with _ | m
      · rw [e2] at hgad; have h1 := hk.1; simp only [Option.getD_none] at hgad; omega
      · rw [e2] at hgad; exact hk.2.2 (by rw [e2, e, hgad]; rfl)⟩
    have HKB : Hid (∀ i, i < ys.length → RdCl w3 (fun k => w2.heap.size ≤ k ∧ k < w3.heap.size ∧ k ≠ gb) (cvB i) (ys.getD i Co.z).cells) := hid fun i hi => (hnB.kids i hi).more fun k hk => ⟨hk.1, hk.2.1, fun e => by
      rcases e2 : (Value.slice va2 ys.length vc2).ownBlock with _ | m
      · rw [e2] at hgbd; have h1 := hk.1; simp only [Option.getD_none] at hgbd; omega
      · rw [e2] at hgbd; exact hk.2.2 (by rw [e2, e, hgbd]; rfl)⟩
    have hrA := hnA.row
    have hrB := hnB.row
    have HR23 := hid hr3
    clear hgad hgbd hnA hnB hd3 hr3 hok2 HKT2 HCO HA HP HB2 HB1
    obtain ⟨L, hxl⟩ : ∃ L, L = xs.length := ⟨_, rfl⟩
    obtain ⟨M, hyl⟩ : ∃ M, M = ys.length := ⟨_, rfl⟩
    rw [← hxl] at hl3 hrA HKA HXAL
    rw [← hyl] at hm3 hrB HKB HXBL
    rw [← hxl, ← hyl]
    have HXAE := hid hxl.symm
    have HXBE := hid hyl.symm
    clear hxl hyl
    obtain ⟨W5, hW5⟩ : ∃ W, W = (w3.alloc (.cells #[.int .i64 1, .string nm, .slice va L vc] 29)).alloc (.cells #[.int .i64 2, .string nm2, .slice va2 M vc2] 29) := ⟨_, rfl⟩
    have hbA := (BoxN.new w3 #[.int .i64 1, .string nm, .slice va L vc] 29).alloc (.cells #[.int .i64 2, .string nm2, .slice va2 M vc2] 29)
    have hbB := BoxN.new (w3.alloc (.cells #[.int .i64 1, .string nm, .slice va L vc] 29)) #[.int .i64 2, .string nm2, .slice va2 M vc2] 29
    have hs5 := ((Below.refl w3.heap.size w3).alloc (Nat.le_refl _) (.cells #[.int .i64 1, .string nm, .slice va L vc] 29)).alloc (by simp) (.cells #[.int .i64 2, .string nm2, .slice va2 M vc2] 29)
    have hz5 : W5.heap.size = w3.heap.size + 2 := by rw [hW5]; simp
    rw [← hW5] at hbA hbB hs5
    rw [World.size_alloc] at hbB
    have HXAB := hid hbA
    have HXBB5 := hid hbB
    have HS5 := hid hs5
    have HB5 := hid (HB3.out.trans (hs5.mono HB3.out.size))
    have HROWA : Hid (W5.ownsRow w1.heap.size 39 2 (.slice va L vc) L (flatK 2 L (coF (nmTo nmA xs 0) cvA))) := hid (by
      rw [nmTo_zero]
      exact own_later (own_roll hrA HR23.out (Nat.le_refl _) (by omega)) hs5)
    have HROWB5 := hid (own_later hrB hs5)
    have hz5a := Nat.le_of_eq hz5
    have hz5b := Nat.le_of_eq hz5.symm
    have x2 := hbA.cell 2 rfl
    rw [hW5] at x2
    clear hbA hbB hs5 hrA hrB hz5
    go_wp2_with fail
    rw [← hW5]
    clear hW5 x2
    subst hLA
    go_loopg [26] L (fun N i wr => ∃ q : Nat, i = .int .i64 (q : Int) ∧ q + N = L ∧ Hid (Roll W5.heap.size ga W5 wr) ∧ Hid (wr.ownsRow w1.heap.size 39 2 (.slice va L vc) L (flatK 2 L (coF (nmTo nmA xs q) cvA))))
    case atStart => exact ⟨0, rfl, by omega, hid (Roll.refl _ _ _), HROWA⟩
    case round =>
      obtain ⟨q, rfl, hq, HR, HRW⟩ := hrel
      have hwr := HR.out.size
      by_cases hp : 0 < gk
      · have hqL : q < L := by omega
        have hrow := HRW.out
        obtain ⟨b, cap, hg2, hgb, hglt⟩ := hrow.form (by omega)
        obtain ⟨rfl, -, rfl⟩ := Value.slice.inj hg2
        have hga : ga = b := HXAG.out b rfl
        have hbw := HXAG2.out b rfl
        have k0 := (ycells hrow hqL).1
        have hfz := hrow.frozenAt (q * 2)
        simp only [coF, two] at k0
        have HPUT := hid (nm_put hrow HXAE.out hqL)
        have HTB := hid (HXAB.out.roll HR.out HXAB.out.lt (by omega))
        have hdg := (BoxN.new wr #[.string ⟨#[112]⟩, .string ⟨#[113]⟩, .string ⟨#[114]⟩, .string ⟨#[115]⟩] 9).cell q (nmA_at (by omega))
        have x2 := HTB.out.cell 2 rfl
        have HTB4 := hid (HTB.out.alloc (.cells #[.string ⟨#[112]⟩, .string ⟨#[113]⟩, .string ⟨#[114]⟩, .string ⟨#[115]⟩] 9))
        have x2' := HTB4.out.cell 2 rfl
        have k0' := (World.cell?_alloc_lt wr (.cells #[.string ⟨#[112]⟩, .string ⟨#[113]⟩, .string ⟨#[114]⟩, .string ⟨#[115]⟩] 9) ⟨b, q * 2, none⟩ hglt).trans k0
        have hfz' := (hrow.alloc (.cells #[.string ⟨#[112]⟩, .string ⟨#[113]⟩, .string ⟨#[114]⟩, .string ⟨#[115]⟩] 9)).frozenAt (q * 2)
        have hqi : (q : Int) < (L : Int) := by omega
        have hq4 : (q : Int) < 4 := by omega
        clear hg2 hrow HTB4 HTB
        generalize (nmA.getD q ⟨#[]⟩) = dg at *
        go_upto_region 8 with fail
        go_region
        all_goals
          have HPD := hid (own_drewN (HPUT.out.alloc (.cells #[.string ⟨#[112]⟩, .string ⟨#[113]⟩, .string ⟨#[114]⟩, .string ⟨#[115]⟩] 9)) 1)
          have hrs : Roll W5.heap.size ga W5 (wr.setCell ⟨b, q * 2, none⟩ (.string dg)) := HR.out.trans ⟨rfl, rfl, rfl, by simp, fun k hk hkg => Below.heap_setCell wr ⟨b, q * 2, none⟩ _ k (by show k ≠ b; omega)⟩
          have HRF := hid ((hrs.alloc (by simp; omega) (.cells #[.string ⟨#[112]⟩, .string ⟨#[113]⟩, .string ⟨#[114]⟩, .string ⟨#[115]⟩] 9)).drewN 1)
          clear hrs k0 k0' hfz hfz' x2 x2' hdg
          go_wp2_with fail
          go_roundg (gk - 1)
          case rel => exact ⟨q + 1, by go_num, by omega, HRF, HPD⟩
          case measure => omega
      · obtain rfl : gk = 0 := by omega
        obtain rfl : L = q := by omega
        obtain ⟨W6, rfl⟩ : ∃ W, W = wr := ⟨wr, rfl⟩
        have HRL := HR
        have HXAB6 := hid (HXAB.out.roll HR.out HXAB.out.lt (by omega))
        have HXBB := hid (HXBB5.out.roll HR.out HXBB5.out.lt (by omega))
        have HROWB : Hid (W6.ownsRow w2.heap.size 39 2 (.slice va2 M vc2) M (flatK 2 M (coF (nmTo nmB ys 0) cvB))) := hid (by
          rw [nmTo_zero]
          exact own_roll HROWB5.out HR.out (Nat.le_refl _) (by omega))
        have HRA6 : Hid (RdCo W6 (fun k => w1.heap.size ≤ k ∧ k < w2.heap.size) (.slice va L vc) (nmL nmA xs)) := hid (by
          have h := inK_of_owns HRW.out
          refine ⟨cvA, ?_, fun i hi => ?_⟩
          · rw [nmL, nmTo_len, HXAE.out]
            exact h.more fun b hb => by have := HRW.out.lt b hb; have h3 := HXAL.out b hb; omega
          · rw [nmL, nmTo_len] at hi
            unfold nmL
            rw [nmTo_cells _ _ _ hi]
            refine ((HKA.out i (by rw [← HXAE.out]; exact hi)).keep fun p hp => ?_).more fun b hb => ⟨hb.1, hb.2.1⟩
            have hp1 : w1.heap.size ≤ p.block := hp.1
            have hp2 : p.block < w2.heap.size := hp.2.1
            have hp3 : p.block ≠ ga := hp.2.2
            exact (HR.out.cell (p := p) (by omega) hp3).trans ((HS5.out.cell (p := p) (by omega)).trans (HR23.out.cell (p := p) hp2 (by omega))))
        have HB6 := hid (HB5.out.trans (HR.out.below (B' := w.heap.size) (by omega) (by omega)))
        have hz6 := HR.out.size
        have x2 := HXBB.out.cell 2 rfl
        generalize hLB : Code.loop _ = LB
        go_wp2_with fail
        subst hLB
        clear x2
        go_loopg [42] M (fun N i wr => ∃ q : Nat, i = .int .i64 (q : Int) ∧ q + N = M ∧ Hid (Roll W6.heap.size gb W6 wr) ∧ Hid (wr.ownsRow w2.heap.size 39 2 (.slice va2 M vc2) M (flatK 2 M (coF (nmTo nmB ys q) cvB))))
        case atStart => exact ⟨0, rfl, by omega, hid (Roll.refl _ _ _), HROWB⟩
        case round =>
          obtain ⟨q, rfl, hq, HR, HRW⟩ := hrel
          have hwr := HR.out.size
          by_cases hp : 0 < gk
          · have hqL : q < M := by omega
            have hrow := HRW.out
            obtain ⟨b, cap, hg2, hgb, hglt⟩ := hrow.form (by omega)
            obtain ⟨rfl, -, rfl⟩ := Value.slice.inj hg2
            have hga : gb = b := HXBG.out b rfl
            have hbw := HXBG2.out b rfl
            have k0 := (ycells hrow hqL).1
            have hfz := hrow.frozenAt (q * 2)
            simp only [coF, two] at k0
            have HPUT := hid (nm_put hrow HXBE.out hqL)
            have HTB := hid (HXBB.out.roll HR.out HXBB.out.lt (by omega))
            have hdg := (BoxN.new wr #[.string ⟨#[119]⟩, .string ⟨#[120]⟩, .string ⟨#[121]⟩, .string ⟨#[122]⟩] 9).cell q (nmB_at (by omega))
            have x2 := HTB.out.cell 2 rfl
            have HTB4 := hid (HTB.out.alloc (.cells #[.string ⟨#[119]⟩, .string ⟨#[120]⟩, .string ⟨#[121]⟩, .string ⟨#[122]⟩] 9))
            have x2' := HTB4.out.cell 2 rfl
            have k0' := (World.cell?_alloc_lt wr (.cells #[.string ⟨#[119]⟩, .string ⟨#[120]⟩, .string ⟨#[121]⟩, .string ⟨#[122]⟩] 9) ⟨b, q * 2, none⟩ hglt).trans k0
            have hfz' := (hrow.alloc (.cells #[.string ⟨#[119]⟩, .string ⟨#[120]⟩, .string ⟨#[121]⟩, .string ⟨#[122]⟩] 9)).frozenAt (q * 2)
            have hqi : (q : Int) < (M : Int) := by omega
            have hq4 : (q : Int) < 4 := by omega
            clear hg2 hrow HTB4 HTB
            generalize (nmB.getD q ⟨#[]⟩) = dg at *
            go_upto_region 13 with fail
            go_region
            all_goals
              have HPD := hid (own_drewN (HPUT.out.alloc (.cells #[.string ⟨#[119]⟩, .string ⟨#[120]⟩, .string ⟨#[121]⟩, .string ⟨#[122]⟩] 9)) 1)
              have hrs : Roll W6.heap.size gb W6 (wr.setCell ⟨b, q * 2, none⟩ (.string dg)) := HR.out.trans ⟨rfl, rfl, rfl, by simp, fun k hk hkg => Below.heap_setCell wr ⟨b, q * 2, none⟩ _ k (by show k ≠ b; omega)⟩
              have HRF := hid ((hrs.alloc (by simp; omega) (.cells #[.string ⟨#[119]⟩, .string ⟨#[120]⟩, .string ⟨#[121]⟩, .string ⟨#[122]⟩] 9)).drewN 1)
              clear hrs k0 k0' hfz hfz' x2 x2' hdg
              go_wp2_with fail
              go_roundg (gk - 1)
              case rel => exact ⟨q + 1, by go_num, by omega, HRF, HPD⟩
              case measure => omega
          · obtain rfl : gk = 0 := by omega
            obtain rfl : M = q := by omega
            obtain ⟨W7, rfl⟩ : ∃ W, W = wr := ⟨wr, rfl⟩
            have HXA7 := hid (HXAB6.out.roll HR.out HXAB6.out.lt (by omega))
            have HXB7 := hid (HXBB.out.roll HR.out HXBB.out.lt (by omega))
            have HRA7 : Hid (RdCo W7 (fun k => w1.heap.size ≤ k ∧ k < w2.heap.size) (.slice va L vc) (nmL nmA xs)) := hid (HRA6.out.keep fun p hp => HR.out.cell (p := p) (by have := hp.2; omega) (by have h1 := hp.1; have h2 := hp.2; omega))
            have HRB7 : Hid (RdCo W7 (fun k => w2.heap.size ≤ k ∧ k < w3.heap.size) (.slice va2 M vc2) (nmL nmB ys)) := hid (by
              have h := inK_of_owns HRW.out
              refine ⟨cvB, ?_, fun i hi => ?_⟩
              · rw [nmL, nmTo_len, HXBE.out]
                exact h.more fun b hb => by have := HRW.out.lt b hb; have h3 := HXBL.out b hb; omega
              · rw [nmL, nmTo_len] at hi
                unfold nmL
                rw [nmTo_cells _ _ _ hi]
                refine ((HKB.out i (by rw [← HXBE.out]; exact hi)).keep fun p hp => ?_).more fun b hb => ⟨hb.1, hb.2.1⟩
                have hp1 : w2.heap.size ≤ p.block := hp.1
                have hp2 : p.block < w3.heap.size := hp.2.1
                have hp3 : p.block ≠ gb := hp.2.2
                exact (HR.out.cell (p := p) (by omega) hp3).trans ((HRL.out.cell (p := p) (by omega) (by omega)).trans (HS5.out.cell (p := p) (by omega))))
            have HB7 := hid (HB6.out.trans (HR.out.below (B' := w.heap.size) (by omega) (by omega)))
            have hz7 := HR.out.size
            have HLINK := hid (fun h1 h2 => alone_links HOK.out HOK2.out h1 h2 1 2 3 nm nm2 nm (by omega))
            have HTA := hid (fun (z : Int) (h0 : 0 ≤ z) (h1 : z ≤ 1073741824) => nmL_tab (ns := nmA) HOK.out nm_facts.1 (id := z) h0 h1)
            have HTB := hid (fun (z : Int) (h0 : 0 ≤ z) (h1 : z ≤ 1073741824) => nmL_tab (ns := nmB) HOK2.out nm_facts.2 (id := z) h0 h1)
            have HXL : Hid ((nmL nmA xs).length = L) := hid (by rw [nmL, nmTo_len]; exact HXAE.out)
            have HYL : Hid ((nmL nmB ys).length = M) := hid (by rw [nmL, nmTo_len]; exact HXBE.out)
            have HXN : Hid (L ≠ 0 → xs ≠ []) := hid (fun h e => h (by rw [← HXAE.out, e]; rfl))
            have HYN : Hid (M ≠ 0 → ys ≠ []) := hid (fun h e => h (by rw [← HXBE.out, e]; rfl))
            clear HRW HRA6 HXAB6 HXBB HB6 HKA HKB HROWA HROWB HXAG HXBG HXAG2 HXBG2 HXAL HXBL HXAE HXBE HR HRL HXAB HXBB5 HROWB5 HS5 HB5 HR23 HB3
            simp only at HLINK HTA HTB
            have a2 := HXA7.out.cell 2 rfl
            have b2 := HXB7.out.cell 2 rfl
            by_cases hL0 : L = 0
            · subst hL0
              go_wp2_with fail
              with_reducible refine (HAW.out W7 HB7.out).mono ?_
              rintro e w8 ⟨rfl, hb8⟩
              have HF := hid (HB7.out.trans (hb8.mono HB7.out.size))
              go_wp2
              go_ret
              exact ⟨rfl, HF.out⟩
            · have hL0i : ¬ ((L : Int) = 0) := by omega
              have hL0d : decide ((L : Int) = 0) = false := decide_eq_false hL0i
              have hL0b : ((L : Int) == 0) = false := beq_false_of_ne hL0i
              by_cases hM0 : M = 0
              · subst hM0
                go_wp2_with fail
                with_reducible refine (HAW.out W7 HB7.out).mono ?_
                rintro e w8 ⟨rfl, hb8⟩
                have HF := hid (HB7.out.trans (hb8.mono HB7.out.size))
                go_wp2
                go_ret
                exact ⟨rfl, HF.out⟩
              · have hM0i : ¬ ((M : Int) = 0) := by omega
                have hM0d : decide ((M : Int) = 0) = false := decide_eq_false hM0i
                have hM0b : ((M : Int) == 0) = false := beq_false_of_ne hM0i
                obtain ⟨hLK1, hLK2⟩ := HLINK.out (HXN.out hL0) (HYN.out hM0)
                have HLK1 := hid hLK1
                have HLK2 := hid hLK2
                clear hLK1 hLK2 HLINK HXN HYN
                have a0 := HXA7.out.cell 0 rfl
                have a1 := HXA7.out.cell 1 rfl
                have b0 := HXB7.out.cell 0 rfl
                have b1 := HXB7.out.cell 1 rfl
                have hva := HTA.out 1 (by omega) (by omega)
                have hvb := HTB.out 2 (by omega) (by omega)
                have hvc := HTA.out 3 (by omega) (by omega)
                have HLV1 : Hid (ListV [⟨1, nm, nmL nmA xs⟩, ⟨2, nm2, nmL nmB ys⟩]) := hid ⟨by simp, fun t ht => by
                  simp only [List.mem_cons, List.not_mem_nil, or_false] at ht
                  rcases ht with rfl | rfl
                  · exact hva.1
                  · exact hvb.1, by simp⟩
                have HLV2 : Hid (ListV [⟨1, nm, nmL nmA xs⟩, ⟨2, nm2, nmL nmB ys⟩, ⟨3, nm, nmL nmA xs⟩]) := hid ⟨by simp, fun t ht => by
                  simp only [List.mem_cons, List.not_mem_nil, or_false] at ht
                  rcases ht with rfl | rfl | rfl
                  · exact hva.1
                  · exact hvb.1
                  · exact hvc.1, by simp⟩
                have HFW1 : Hid (∀ t ∈ ([⟨1, nm, nmL nmA xs⟩, ⟨2, nm2, nmL nmB ys⟩] : List Ta), Few t.cols) := hid fun t ht => by
                  simp only [List.mem_cons, List.not_mem_nil, or_false] at ht
                  rcases ht with rfl | rfl
                  · exact hva.2
                  · exact hvb.2
                have HFW2 : Hid (∀ t ∈ ([⟨1, nm, nmL nmA xs⟩, ⟨2, nm2, nmL nmB ys⟩, ⟨3, nm, nmL nmA xs⟩] : List Ta), Few t.cols) := hid fun t ht => by
                  simp only [List.mem_cons, List.not_mem_nil, or_false] at ht
                  rcases ht with rfl | rfl | rfl
                  · exact hva.2
                  · exact hvb.2
                  · exact hvc.2
                have HCELL : Hid (∀ x ∈ nmL nmA xs, x.cells.length ≤ 1048576) := hid fun x hx => by
                  obtain ⟨m, hm, hc⟩ := hva.2
                  have := (hc x hx).2.1
                  omega
                clear hva hvb hvc HTA HTB
                have HRAf := hid (fun W (hW : Below W7.heap.size W7 W) => ((HRA7.out.keep (w' := W) fun p hp => hW.cell (p := p) (by have := hp.2; omega)).more fun b hb => (by have := hb.2; have := hW.size; omega : b < W.heap.size) : RdCo W (· < W.heap.size) (.slice va L vc) (nmL nmA xs)))
                have HRBf := hid (fun W (hW : Below W7.heap.size W7 W) => ((HRB7.out.keep (w' := W) fun p hp => hW.cell (p := p) (by have := hp.2; omega)).more fun b hb => (by have := hb.2; have := hW.size; omega : b < W.heap.size) : RdCo W (· < W.heap.size) (.slice va2 M vc2) (nmL nmB ys)))
                have HBf := hid (fun W (hW : Below W7.heap.size W7 W) => HB7.out.trans (hW.mono HB7.out.size))
                have HXAf := hid (fun W (hW : Below W7.heap.size W7 W) => HXA7.out.below hW HXA7.out.lt)
                have HXBf := hid (fun W (hW : Below W7.heap.size W7 W) => HXB7.out.below hW HXB7.out.lt)
                obtain ⟨X1, hX1⟩ : ∃ X, X = W7.alloc (.cells #[.int .i64 1, .string nm, .slice va L vc, .int .i64 2, .string nm2, .slice va2 M vc2] 29) := ⟨_, rfl⟩
                have hbx1 := BoxN.new W7 #[.int .i64 1, .string nm, .slice va L vc, .int .i64 2, .string nm2, .slice va2 M vc2] 29
                have hsx1 := (Below.refl W7.heap.size W7).alloc (Nat.le_refl _) (.cells #[.int .i64 1, .string nm, .slice va L vc, .int .i64 2, .string nm2, .slice va2 M vc2] 29)
                rw [← hX1] at hbx1 hsx1
                have HSX1 := hid hsx1
                have HL1 := hid (lin_Links [⟨1, nm, nmL nmA xs⟩, ⟨2, nm2, nmL nmB ys⟩] (.slice (some ⟨W7.heap.size, 0, none⟩) 2 2) X1.heap.size X1 HLV1.out HFW1.out (rdTa_box (ts := [⟨1, nm, nmL nmA xs⟩, ⟨2, nm2, nmL nmB ys⟩]) (tv := fun i => if i = 0 then .slice va L vc else .slice va2 M vc2) hbx1 hbx1.lt (by unfold maxLen; simp) (fun i hi => by
                  rcases (show i = 0 ∨ i = 1 by simp at hi; omega) with rfl | rfl
                  · exact HRAf.out X1 hsx1
                  · exact HRBf.out X1 hsx1)) (Nat.le_refl _) (HT.out.below (HBf.out X1 hsx1)))
                unfold LinksP at HL1
                rw [HLK1.out] at HL1
                clear hbx1 hsx1
                go_wp2_with fail
                rw [← hX1]
                clear hX1 a0 a1 a2 b0 b1 b2
                with_reducible refine HL1.out.mono ?_
                rintro e w8 ⟨u, rfl, hu, hb8⟩
                obtain ⟨ua, uc, rfl, -, -⟩ := rdLk_len hu
                rw [List.length_nil]
                have HS8 := hid (HSX1.out.trans (hb8.mono HSX1.out.size))
                have HCP := hid (ref38_Copy ⟨1, nm, nmL nmA xs⟩ (.slice va L vc) w8.heap.size w8 (HRAf.out w8 HS8.out) (Nat.le_refl _) (by simp only; rw [HXL.out]; omega) HCELL.out)
                simp only at HCP
                have a0 := (HXAf.out w8 HS8.out).cell 0 rfl
                have a1 := (HXAf.out w8 HS8.out).cell 1 rfl
                have a2 := (HXAf.out w8 HS8.out).cell 2 rfl
                clear hu hb8 HL1
                go_wp2_with fail
                clear a0 a1 a2
                with_reducible refine HCP.out.mono ?_
                rintro e w9 ⟨cv0, rfl, hco9, hb9⟩
                have hz9 := hb9.size
                have HRC9 := hid (hco9.read.more (S' := (· < w9.heap.size)) fun b hb => hb.2)
                obtain ⟨za, zc, rfl⟩ := rdCo_len hco9.read
                rw [HXL.out] at HRC9 ⊢
                have HS9 := hid (HS8.out.trans (hb9.mono HS8.out.size))
                clear hco9 hb9 HCP
                obtain ⟨X9, hX9⟩ : ∃ X, X = w9.alloc (.cells #[.int .i64 3, .string nm, .slice za L zc] 29) := ⟨_, rfl⟩
                have hb9 := BoxN.new w9 #[.int .i64 3, .string nm, .slice za L zc] 29
                have hs9 := (Below.refl w9.heap.size w9).alloc (Nat.le_refl _) (.cells #[.int .i64 3, .string nm, .slice za L zc] 29)
                rw [← hX9] at hb9 hs9
                have HXC9 := hid hb9
                have HSX9 := hid (HS9.out.trans (hs9.mono HS9.out.size))
                have HRCf := hid (fun W (hW : Below X9.heap.size X9 W) => rdCo_nx (rdCo_nx HRC9.out hs9) hW)
                have HXCf := hid (fun W (hW : Below X9.heap.size X9 W) => HXC9.out.below hW HXC9.out.lt)
                have HBXf := hid (fun W (hW : Below X9.heap.size X9 W) => HSX9.out.trans (hW.mono HSX9.out.size))
                have HTRI := hid (fun (X : World) (B : Nat) (hX : Below X9.heap.size X9 X) (hbx : BoxN X B 29 #[.int .i64 1, .string nm, .slice va L vc, .int .i64 2, .string nm2, .slice va2 M vc2, .int .i64 3, .string nm, .slice za L zc]) => (rdTa_box (ts := [⟨1, nm, nmL nmA xs⟩, ⟨2, nm2, nmL nmB ys⟩, ⟨3, nm, nmL nmA xs⟩]) (tv := fun i => if i = 0 then .slice va L vc else if i = 1 then .slice va2 M vc2 else .slice za L zc) (S := (· < X.heap.size)) hbx hbx.lt (by unfold maxLen; simp) (fun i hi => by
                  rcases (show i = 0 ∨ i = 1 ∨ i = 2 by simp at hi; omega) with rfl | rfl | rfl
                  · exact HRAf.out X (HBXf.out X hX)
                  · exact HRBf.out X (HBXf.out X hX)
                  · exact HRCf.out X hX) : RdTa X (· < X.heap.size) (.slice (some ⟨B, 0, none⟩) 3 3) [⟨1, nm, nmL nmA xs⟩, ⟨2, nm2, nmL nmB ys⟩, ⟨3, nm, nmL nmA xs⟩]))
                obtain ⟨X2, hX2⟩ : ∃ X, X = X9.alloc (.cells #[.int .i64 1, .string nm, .slice va L vc, .int .i64 2, .string nm2, .slice va2 M vc2, .int .i64 3, .string nm, .slice za L zc] 29) := ⟨_, rfl⟩
                have hbx2 := BoxN.new X9 #[.int .i64 1, .string nm, .slice va L vc, .int .i64 2, .string nm2, .slice va2 M vc2, .int .i64 3, .string nm, .slice za L zc] 29
                have hsx2 := (Below.refl X9.heap.size X9).alloc (Nat.le_refl _) (.cells #[.int .i64 1, .string nm, .slice va L vc, .int .i64 2, .string nm2, .slice va2 M vc2, .int .i64 3, .string nm, .slice za L zc] 29)
                rw [← hX2] at hbx2 hsx2
                have HSX2 := hid hsx2
                have HL2 := hid (lin_Links [⟨1, nm, nmL nmA xs⟩, ⟨2, nm2, nmL nmB ys⟩, ⟨3, nm, nmL nmA xs⟩] (.slice (some ⟨X9.heap.size, 0, none⟩) 3 3) X2.heap.size X2 HLV2.out HFW2.out (HTRI.out X2 X9.heap.size hsx2 hbx2) (Nat.le_refl _) (HT.out.below (HBf.out X2 (HBXf.out X2 hsx2))))
                unfold LinksP at HL2
                rw [HLK2.out] at HL2
                have hX9z : X9.heap.size = w9.heap.size + 1 := by rw [hX9]; simp
                rw [hX9z] at HL2
                clear hX9z
                have a0 := (HXAf.out X9 HSX9.out).cell 0 rfl
                have a1 := (HXAf.out X9 HSX9.out).cell 1 rfl
                have a2 := (HXAf.out X9 HSX9.out).cell 2 rfl
                have b0 := (HXBf.out X9 HSX9.out).cell 0 rfl
                have b1 := (HXBf.out X9 HSX9.out).cell 1 rfl
                have b2 := (HXBf.out X9 HSX9.out).cell 2 rfl
                have c0 := HXC9.out.cell 0 rfl
                have c1 := HXC9.out.cell 1 rfl
                have c2 := HXC9.out.cell 2 rfl
                rw [hX9] at a0 a1 a2 b0 b1 b2 c0 c1 c2
                clear hb9 hs9 hbx2 hsx2
                go_wp2_with fail
                rw [← hX9, ← hX2]
                clear hX9 hX2 a0 a1 a2 b0 b1 b2 c0 c1 c2
                with_reducible refine HL2.out.mono ?_
                rintro e w10 ⟨u2, rfl, hu2, hb10⟩
                have HS10 := hid (HSX2.out.trans (hb10.mono HSX2.out.size))
                obtain ⟨b, o, c4, uo, rfl, hbn, hpo, l0, l1, l2⟩ := lk_at hu2 (q := 0) (by simp)
                obtain ⟨oa, oc, rfl⟩ := rdPo_len hpo
                have l0' : w10.cell? ⟨b, o, none⟩ = some (.int .i64 1) := l0
                have l1' : w10.cell? ⟨b, o + 1, none⟩ = some (.int .i64 3) := l1
                have l2' : w10.cell? ⟨b, o + 2, none⟩ = some (.slice oa 0 oc) := l2
                have HU2 := hid (hu2.more (S' := (· < w10.heap.size)) fun b hb => hb.2)
                have a0 := (HXAf.out w10 (HBXf.out w10 HS10.out)).cell 0 rfl
                have a1 := (HXAf.out w10 (HBXf.out w10 HS10.out)).cell 1 rfl
                have a2 := (HXAf.out w10 (HBXf.out w10 HS10.out)).cell 2 rfl
                have b0 := (HXBf.out w10 (HBXf.out w10 HS10.out)).cell 0 rfl
                have b1 := (HXBf.out w10 (HBXf.out w10 HS10.out)).cell 1 rfl
                have b2 := (HXBf.out w10 (HBXf.out w10 HS10.out)).cell 2 rfl
                have c0 := (HXCf.out w10 HS10.out).cell 0 rfl
                have c1 := (HXCf.out w10 HS10.out).cell 1 rfl
                have c2 := (HXCf.out w10 HS10.out).cell 2 rfl
                obtain ⟨X3, hX3⟩ : ∃ X, X = w10.alloc (.cells #[.int .i64 1, .string nm, .slice va L vc, .int .i64 2, .string nm2, .slice va2 M vc2, .int .i64 3, .string nm, .slice za L zc] 29) := ⟨_, rfl⟩
                have hbx3 := BoxN.new w10 #[.int .i64 1, .string nm, .slice va L vc, .int .i64 2, .string nm2, .slice va2 M vc2, .int .i64 3, .string nm, .slice za L zc] 29
                have hsx3 := (Below.refl w10.heap.size w10).alloc (Nat.le_refl _) (.cells #[.int .i64 1, .string nm, .slice va L vc, .int .i64 2, .string nm2, .slice va2 M vc2, .int .i64 3, .string nm, .slice za L zc] 29)
                rw [← hX3] at hbx3 hsx3
                have HS3 := hid (HS10.out.trans (hsx3.mono HS10.out.size))
                have HRO := hid (lin_Roots [⟨1, nm, nmL nmA xs⟩, ⟨2, nm2, nmL nmB ys⟩, ⟨3, nm, nmL nmA xs⟩] [⟨1, 3, []⟩] (.slice (some ⟨w10.heap.size, 0, none⟩) 3 3) (.slice (some ⟨b, o, none⟩) 1 c4) X3.heap.size X3 HLV2.out.2.2 (by simp) (by simp) (HTRI.out X3 w10.heap.size HS3.out hbx3) (rdLk_next HU2.out hsx3) (Nat.le_refl _))
                unfold RootsP at HRO
                rw [alone_roots _ _ _ rfl rfl rfl] at HRO
                clear hu2 hb10 hbx3 hsx3 l0 l1 l2 hpo hbn HL2
                simp only [List.length_singleton, List.length_cons, List.length_nil, Nat.zero_add]
                go_wp2_with fail
                rw [← hX3]
                clear hX3 a0 a1 a2 b0 b1 b2 c0 c1 c2 l0' l1' l2'
                with_reducible refine HRO.out.mono ?_
                rintro e w11 ⟨rv, rfl, hrv, hb11⟩
                have HS11 := hid (HS3.out.trans (hb11.mono HS3.out.size))
                have HRV := hid (hrv.more (S' := (· < w11.heap.size)) fun b hb => hb.2)
                obtain ⟨X4, hX4⟩ : ∃ X, X = w11.alloc (.cells #[.int .i64 1, .int .i64 2] 3) := ⟨_, rfl⟩
                have hbx4 := BoxN.new w11 #[.int .i64 1, .int .i64 2] 3
                have hsx4 := (Below.refl w11.heap.size w11).alloc (Nat.le_refl _) (.cells #[.int .i64 1, .int .i64 2] 3)
                rw [← hX4] at hbx4 hsx4
                have HS4 := hid (HS11.out.trans (hsx4.mono HS11.out.size))
                have HIN := hid (law39_ints rv (.slice (some ⟨w11.heap.size, 0, none⟩) 2 2) [1, 2] X4.heap.size X4 (InK.more (InK.keep HRV.out fun p (hp : p.block < w11.heap.size) => hsx4.cell (p := p) hp) fun b (hb : b < w11.heap.size) => Nat.lt_of_lt_of_le hb hsx4.size) ⟨some ⟨w11.heap.size, 0, none⟩, 2, rfl, Nat.le_refl _, by unfold maxLen; omega, fun _ => ⟨w11.heap.size, 0, rfl, hbx4.lt, fun i hi j hj => by
                  rcases (show i = 0 ∨ i = 1 by simp at hi; omega) with rfl | rfl
                  · obtain rfl : j = 0 := by omega
                    exact hbx4.cell 0 rfl
                  · obtain rfl : j = 0 := by omega
                    exact hbx4.cell 1 rfl⟩⟩ (Nat.le_refl _))
                clear hbx4 hsx4 hrv hb11 HRO
                go_wp2_with fail
                rw [← hX4]
                clear hX4
                with_reducible refine HIN.out.mono ?_
                rintro e w12 ⟨rfl, hb12⟩
                have HS12 := hid (HS4.out.trans (hb12.mono HS4.out.size))
                clear hb12
                go_wp2_with fail
                with_reducible refine (HAW.out w12 (HBf.out w12 (HBXf.out w12 HS12.out))).mono ?_
                rintro e w13 ⟨rfl, hb13⟩
                have HF := hid ((HBf.out w12 (HBXf.out w12 HS12.out)).trans (hb13.mono (HBf.out w12 (HBXf.out w12 HS12.out)).size))
                go_wp2
                go_ret
                exact ⟨rfl, HF.out⟩
  · have HLI := hid (kit_Light a n c w hnm)
    rw [decide_eq_false hg] at HLI
    go_enter Tryz.func9, Tryz.ntmps9
    go_wp2_with fail
    with_reducible refine HLI.out.mono ?_
    rintro e w0 ⟨rfl, rfl⟩
    go_wp2_with fail
    with_reducible refine (HAW.out w (Below.refl _ _)).mono ?_
    rintro e w4 ⟨rfl, hb4⟩
    go_wp2
    go_ret
    exact ⟨rfl, hb4⟩
end Go.Proofs.YtfmlpaplnkohpaaGreatDoor
