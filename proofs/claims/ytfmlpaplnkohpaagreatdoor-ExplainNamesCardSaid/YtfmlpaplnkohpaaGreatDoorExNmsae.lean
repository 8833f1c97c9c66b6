/- The walk of ExplainNames. A slice of bytes that came in. No program in sight. Go's own tables where the call begins; how a list of texts is opened. Go's own table of powers of ten, where the call begins. -/
import Derived.Deep.Cut
import Derived.Deep.CutRange
import Derived.Test.YtfmlpaplnkohpaaGreatDoorExLdsbh
import Derived.Test.YtfmlpaplnkohpaaGreatDoorExNmsad
import Derived.Test.YtfmlpaplnkohpaaGreatDoorExLdsaa
import Derived.Test.YtfmlpaplnkohpaaGreatDoorExLdsad
import Derived.Test.YtfmlpaplnkohpaaGreatDoorTie
import Derived.Test.YtfmlpaplnkohpaaGreatDoorCards
import Derived.Carry
import Derived.SizedLaws
import Derived.ProofKit
import Derived.OpenShut
import Derived.ChangeSlices
import Derived.SliceStrings
import Derived.LaidLaws
import Derived.LaidMore
import Derived.Lib.LaidU8T
import Derived.PinnedBridge
import Derived.SevenTiedAt
import Derived.Test.YtfmlpaplnkohpaaGreatDoorExLdsbg
set_option linter.unusedVariables false
set_option linter.unusedSimpArgs false
namespace Go.Proofs.YtfmlpaplnkohpaaGreatDoor
open Go.RowKit

/-- what the kit makes of few columns is few columns, with their names -/
theorem derL_few {x0 xs : List Co} (h : DerL x0 xs) (h0 : x0.length ≤ 3) : xs.length ≤ 3 :=
  h (fun ys => ys.length ≤ 3) h0 fun ys o hy _ ho => by
    unfold doL
    split
    · simpa [projL] using ho
    · simpa [selL] using hy
def strangeB : ByteArray := ⟨#[115, 116, 114, 97, 110, 103, 101]⟩
def otherB : ByteArray := ⟨#[111, 116, 104, 101, 114]⟩
theorem strange_differs : ∀ x ∈ kcolNames, x ≠ strangeB := by decide +kernel
theorem strange_ok : TextOk 1024 strangeB ∧ TextOk 1024 otherB ∧ strangeB ∉ kcolNames := ⟨by unfold TextOk; decide +kernel, by unfold TextOk; decide +kernel, fun h => strange_differs _ h rfl⟩
theorem strange_not {t : Ta} (h : KTabOk t) : strangeB ∉ namesL t.cols := by
  obtain ⟨-, -, n, -, hc⟩ := h
  intro hm
  obtain ⟨c, hcm, e⟩ := List.mem_map.1 hm
  exact strange_ok.2.2 (by rw [← e]; exact (hc c hcm).1)
def nullsL (n : Nat) : List Cl := List.replicate n ⟨true, ⟨#[]⟩⟩
theorem strange_cols {ys : List Co} {n : Nat} (h : ColsV ys n) (hn : ys = [] → n = 0) : ColsV (ys ++ [⟨strangeB, nullsL (rowsC ys)⟩]) n := by
  intro x hx
  rcases List.mem_append.1 hx with h1 | h1
  · exact h x h1
  · rw [List.mem_singleton.1 h1]
    refine ⟨strange_ok.1, ?_, fun c hc => ?_⟩
    · show (nullsL (rowsC ys)).length = n
      rw [nullsL, List.length_replicate]
      cases ys with
      | nil => rw [hn rfl]; rfl
      | cons y r => exact rowsC_of h (by simp)
    · rw [List.eq_of_mem_replicate hc]
      exact cellOk_null
theorem strange_tab {nm : ByteArray} {ys : List Co} (h : TabW nm ys) (hl : ys.length ≤ 3) : TabV ⟨77, otherB, ys ++ [⟨strangeB, nullsL (rowsC ys)⟩]⟩ := by
  obtain ⟨-, -, n, hn, hc⟩ := h
  refine ⟨by simp, by simp, strange_ok.2.1, by simp; omega, ?_⟩
  by_cases h0 : ys = []
  · subst h0
    exact ⟨0, by omega, strange_cols (fun x hx => by cases hx) (fun _ => rfl)⟩
  · exact ⟨n, hn, strange_cols hc fun h => absurd h h0⟩
theorem nulls_snoc (q : Nat) : nullsL (q + 1) = nullsL q ++ [⟨true, ⟨#[]⟩⟩] := by simp [nullsL, List.replicate_succ']
theorem nulls_len (q : Nat) : (nullsL q).length = q := by simp [nullsL]
theorem nulls_push (q : Nat) : flatK 2 q (clF (nullsL q)) ++ [.bool true, .string ⟨#[]⟩] = flatK 2 (q + 1) (clF (nullsL (q + 1))) := by
  have h := cl_push (nullsL q) ⟨true, ⟨#[]⟩⟩
  rw [← nulls_snoc, nulls_len, nulls_len] at h
  exact h
theorem rowsC_le {nm : ByteArray} {ys : List Co} (h : TabW nm ys) : rowsC ys ≤ 4096 := by
  obtain ⟨-, -, n, hn, hc⟩ := h
  cases ys with
  | nil => exact Nat.zero_le _
  | cons y r => rw [rowsC_of hc (by simp)]; exact hn

/-- one more column behind columns in an own row -/
theorem rdCo_pushed {W' : World} {base : Nat} {e : TypeId} {p n cap : Nat} {xs : List Co} {cv : Nat → Value} {x : Co} {u : Value} {S : Nat → Prop} (hn : n = xs.length)
    (hown : W'.ownsRow base e 2 (.slice (some ⟨p, 0, none⟩) (n + 1) cap) (n + 1) (flatK 2 n (coF xs cv) ++ [.string x.name, u])) (hk : ∀ i, i < xs.length → RdCl W' S (cv i) (xs.getD i Co.z).cells) (hu : RdCl W' S u x.cells) :
    RdCo W' (fun b => b = p ∨ S b) (.slice (some ⟨p, 0, none⟩) (n + 1) cap) (xs ++ [x]) := by
  subst hn
  have e1 : flatK 2 xs.length (coF xs cv) = flatK 2 xs.length (coF xs (fun i => if i = xs.length then u else cv i)) := flatK_congr fun i hi j hj => by
    have : i ≠ xs.length := by omega
    simp [coF, this]
  rw [e1, co_push (q := xs.length) rfl (by simp)] at hown
  refine ⟨fun i => if i = xs.length then u else cv i, ?_, fun i hi => ?_⟩
  · have h := inK_of_owns hown
    rw [List.length_append, List.length_singleton]
    exact h.more fun b hb => .inl (by simpa [Value.ownBlock] using hb.symm)
  · rw [List.length_append, List.length_singleton] at hi
    by_cases e2 : i = xs.length
    · subst e2
      simp only [if_true]
      have e3 : (xs ++ [x]).getD xs.length Co.z = x := by simp [List.getD]
      rw [e3]
      exact hu.more fun b hb => .inr hb
    · simp only [if_neg e2]
      have e3 : (xs ++ [x]).getD i Co.z = xs.getD i Co.z := by simp [List.getD, List.getElem?_append_left (show i < xs.length by omega)]
      rw [e3]
      exact (hk i (by omega)).more fun b hb => .inr hb

set_option maxRecDepth 100000 in
set_option maxHeartbeats 8000000 in
theorem law38_names (a : Option Addr) (n c : Nat) (s : ByteArray) (w : World) (hA : RdI w w.heap.size a n c) (hT : Tabs w) (hP : Pow w) :
    Calls Tryz.prog 3 #[.slice a n c, .string s] w (Ret w (.bool true)) := by
  have HA := hid hA
  have HT := hid hT
  have HP := hid hP
  have hnm : n ≤ maxLen := Nat.le_trans hA.1 hA.2.1
  have HAW := hid (fun W (hW : Below w.heap.size w W) => law38_awake W (hT.below hW))
  clear hA hT hP
  generalize hss : s.size = sz
  by_cases hg : n ≤ 500
  · have HLI := hid (kit_Light a n c w hnm)
    rw [decide_eq_true hg] at HLI
    by_cases hs : 100 < sz
    · have hsi : (100 : Int) < (sz : Int) := by omega
      have hsd : decide ((100 : Int) < (sz : Int)) = true := decide_eq_true hsi
      go_enter Tryz.func3, Tryz.ntmps3
      go_wp2_with fail
      with_reducible refine HLI.out.mono ?_
      rintro e w0 ⟨rfl, rfl⟩
      go_wp2_with fail
      with_reducible refine (HAW.out w (Below.refl _ _)).mono ?_
      rintro e w4 ⟨rfl, hb4⟩
      go_wp2
      go_ret
      exact ⟨rfl, hb4⟩
    · have hsi : ¬ (100 : Int) < (sz : Int) := by omega
      have hsd : decide ((100 : Int) < (sz : Int)) = false := decide_eq_false hsi
      go_enter Tryz.func3, Tryz.ntmps3
      generalize hLA : Code.loop _ = LA
      go_wp2_with fail
      with_reducible refine HLI.out.mono ?_
      rintro e w0 ⟨rfl, rfl⟩
      clear HLI
      go_wp2_with fail
      with_reducible refine (kit_Roll a n c _ HA.out hg HP.out).mono ?_
      rintro e w1 ⟨rfl, hd1, hb1⟩
      have HB1 := hid hb1
      have hz1 := hd1.lt
      have HKT : Hid (Calls Tryz.prog 14 #[.pointer (some ⟨w.heap.size, 0, none⟩), .int .i64 1] w1 (KTab w1 w.heap.size 1)) := hid (kit_Table w.heap.size 1 w1 hd1)
      clear hd1 hb1 hsi hsd
      go_wp2_with fail
      with_reducible refine HKT.out.mono ?_
      rintro e w2 ⟨⟨id, nm, xs⟩, v, rfl, hid1, hok, hco, hd2, hr2⟩
      simp only at hid1 hok hco
      subst hid1
      have hz2 := hr2.size
      have HB2 := hid (HB1.out.trans (hr2.below (B' := w.heap.size) (Nat.le_refl _) (by omega)))
      have hrd := hco.read
      obtain ⟨va, vc, rfl⟩ := rdCo_len hrd
      have HFW := hid (ktab_few hok)
      have HOKK := hid hok
      have hl3 : xs.length ≤ 3 := hok.2.1
      have HTV := hid (hok.valid (by simp) (by simp))
      simp only at HFW
      have HD3 := hid (hd2.alloc (.cells #[.int .i64 1, .string nm, .slice va xs.length vc] 29))
      have HTB3 := hid (BoxN.new w2 #[.int .i64 1, .string nm, .slice va xs.length vc] 29)
      have HBW3 := hid (HB2.out.alloc (by omega) (.cells #[.int .i64 1, .string nm, .slice va xs.length vc] 29))
      have HRT3 : Hid (RdCo (w2.alloc (.cells #[.int .i64 1, .string nm, .slice va xs.length vc] 29)) (fun b => w1.heap.size ≤ b ∧ b < w2.heap.size) (.slice va xs.length vc) xs) := hid (hrd.keep fun p hp => World.cell?_alloc_lt _ _ _ hp.2)
      have hz3 : (w2.alloc (.cells #[.int .i64 1, .string nm, .slice va xs.length vc] 29)).heap.size = w2.heap.size + 1 := by simp
      clear hrd hco hd2 hr2 hok HKT HP HA
      obtain ⟨L, hxl⟩ : ∃ L, L = xs.length := ⟨_, rfl⟩
      rw [← hxl] at HD3 HTB3 HBW3 HRT3 hz3 hl3
      rw [← hxl]
      have HXE := hid hxl.symm
      clear hxl
      obtain ⟨W3, hW3⟩ : ∃ W3, W3 = w2.alloc (.cells #[.int .i64 1, .string nm, .slice va L vc] 29) := ⟨_, rfl⟩
      have x0 := HTB3.out.cell 0 rfl
      have x1 := HTB3.out.cell 1 rfl
      have x2 := HTB3.out.cell 2 rfl
      rw [← hW3] at HD3 HTB3 HBW3 HRT3 hz3
      have hz3a := Nat.le_of_eq hz3
      have hz3b := Nat.le_of_eq hz3.symm
      clear hz3
      have HKD := hid (kit_DerivedS w.heap.size ⟨1, nm, xs⟩ (.slice va L vc) 2 W3 HD3.out ⟨w, HT.out, Nat.le_refl _, HBW3.out⟩ HTV.out (HRT3.out.more fun b hb => ⟨by have := hb.2; omega, by have := hb.1; omega⟩))
      simp only at HKD
      go_wp2_with fail
      rw [← hW3]
      clear hW3 x0 x1 x2
      with_reducible refine HKD.out.mono ?_
      rintro e w4 ⟨ys, v2, rfl, htw, hder, hco, -, hr4⟩
      have hz4 := hr4.size
      have HBW4 := hid (HBW3.out.trans (hr4.below (B' := w.heap.size) (Nat.le_refl _) (by omega)))
      have HTB4 := hid (HTB3.out.roll hr4 HTB3.out.lt (by omega))
      have HRT4 : Hid (RdCo w4 (· < w4.heap.size) (.slice va L vc) xs) := hid ((HRT3.out.keep fun p hp => hr4.cell (p := p) (by have := hp.2; omega) (by have := hp.1; omega)).more fun b hb => by have := hb.2; omega)
      have hrd := hco.read.more (S' := (· < w4.heap.size)) fun b hb => hb.2
      obtain ⟨v2a, v2c, rfl⟩ := rdCo_len hrd
      have HTV2 := hid (htw.tab (id := 2) (by omega) (by omega))
      have hlm : ys.length ≤ 3 := derL_few hder (by rw [HXE.out]; exact hl3)
      have HTW := hid htw
      have HTVS := hid (strange_tab htw hlm)
      have HTVO : Hid (TabV ⟨77, otherB, ys⟩) := hid ⟨by simp, by simp, strange_ok.2.1, by simp only; omega, htw.2.2⟩
      have HCELL := hid (fun (x : Co) (hx : x ∈ ys) => (by obtain ⟨-, -, m, hm, hc⟩ := htw; have := (hc x hx).2.1; omega : x.cells.length ≤ 1048576))
      obtain ⟨M, hyl⟩ : ∃ M, M = ys.length := ⟨_, rfl⟩
      rw [← hyl] at hrd hlm
      rw [← hyl]
      have HYE := hid hyl.symm
      have HRY4 := hid hrd
      clear hyl hrd hco hr4 htw hder HTB3 HRT3 HBW3 HD3 HKD
      obtain ⟨X5, hX5⟩ : ∃ X, X = w4.alloc (.cells #[.int .i64 2, .string nm, .slice v2a M v2c] 29) := ⟨_, rfl⟩
      have hsx := (Below.refl w4.heap.size w4).alloc (Nat.le_refl _) (.cells #[.int .i64 2, .string nm, .slice v2a M v2c] 29)
      have hbx := BoxN.new w4 #[.int .i64 2, .string nm, .slice v2a M v2c] 29
      rw [← hX5] at hsx hbx
      have HTB5 := hid (HTB4.out.below hsx HTB4.out.lt)
      have HRT5 := hid (rdCo_next HRT4.out hsx)
      have HYB5 := hid hbx
      have HRY5 := hid (rdCo_next HRY4.out hsx)
      have HBW5 := hid (HBW4.out.trans (hsx.mono HBW4.out.size))
      have HFI := hid (expl_Find ⟨1, nm, xs⟩ ⟨2, nm, ys⟩ (.slice va L vc) (.slice v2a M v2c) X5.heap.size X5 HTV.out HTV2.out HFW.out HRT5.out HRY5.out (Nat.le_refl _) (HT.out.below HBW5.out))
      simp only at HFI
      have x0 := HTB5.out.cell 0 rfl
      have x1 := HTB5.out.cell 1 rfl
      have x2 := HTB5.out.cell 2 rfl
      have y0 := hbx.cell 0 rfl
      have y1 := hbx.cell 1 rfl
      have y2 := hbx.cell 2 rfl
      rw [hX5] at x0 x1 x2 y0 y1 y2
      clear hsx hbx HTB4 HRT4 HRY4 HBW4
      go_wp2_with fail
      rw [← hX5]
      clear hX5 x0 x1 x2 y0 y1 y2
      with_reducible refine HFI.out.mono ?_
      rintro e w6 ⟨lv, rfl, hpo, hb6⟩
      have HTB := hid (HTB5.out.below hb6 HTB5.out.lt)
      have HYB := hid (HYB5.out.below hb6 HYB5.out.lt)
      have HRT := hid (rdCo_next HRT5.out hb6)
      have HRY := hid (rdCo_next HRY5.out hb6)
      have HBW := hid (HBW5.out.trans (hb6.mono HBW5.out.size))
      clear hb6 HTB5 HYB5 HRT5 HRY5 HBW5 HFI
      generalize hF : findL xs ys = F at *
      have HF := hid hF
      clear hF
      obtain ⟨l, hl⟩ : ∃ l, l = F.getD [] := ⟨_, rfl⟩
      have hpo1 : RdPo w6 (· < w6.heap.size) lv l := by rw [hl]; exact hpo
      obtain ⟨la, lc, rfl⟩ := rdPo_len hpo1
      obtain ⟨ll, hll⟩ : ∃ ll, ll = l.length := ⟨_, rfl⟩
      rw [← hll] at hpo1
      rw [← hll]
      have HPO := hid hpo1
      have HLL := hid hll.symm
      have HLF := hid hl
      have HCP := hid (ref38_Copy ⟨2, nm, ys⟩ (.slice v2a M v2c) w6.heap.size w6 HRY.out (Nat.le_refl _) (by simp only; rw [HYE.out]; omega) HCELL.out)
      simp only at HCP
      clear hpo hpo1 hll hl
      generalize hFS : F.isSome = fo at *
      have HFS := hid hFS
      clear hFS
      have hfo : (fo != fo) = false := by simp
      have y0 := HYB.out.cell 0 rfl
      have y1 := HYB.out.cell 1 rfl
      have y2 := HYB.out.cell 2 rfl
      go_wp2_with fail
      clear y0 y1 y2
      with_reducible refine HCP.out.mono ?_
      rintro e w7 ⟨cv0, rfl, hco7, hb7⟩
      have hz7 := hb7.size
      obtain ⟨za, zc, rfl⟩ := rdCo_len hco7.read
      rw [HYE.out]
      obtain ⟨cv, hnest⟩ := hco7
      rw [HYE.out] at hnest
      have HROW7 := hid hnest.row
      have HKID7 := hid (fun i (hi : i < M) => hnest.kids i hi)
      have HTBf := hid (fun W (h : Below w7.heap.size w7 W) => (HTB.out.below (hb7.trans (h.mono hz7)) HTB.out.lt : BoxN W w2.heap.size 29 #[.int .i64 1, .string nm, .slice va L vc]))
      have HYBf := hid (fun W (h : Below w7.heap.size w7 W) => (HYB.out.below (hb7.trans (h.mono hz7)) HYB.out.lt : BoxN W w4.heap.size 29 #[.int .i64 2, .string nm, .slice v2a M v2c]))
      have HRTf := hid (fun W (h : Below w7.heap.size w7 W) => rdCo_next HRT.out (hb7.trans (h.mono hz7)))
      have HRYf := hid (fun W (h : Below w7.heap.size w7 W) => rdCo_next HRY.out (hb7.trans (h.mono hz7)))
      have HPOf := hid (fun W (h : Below w7.heap.size w7 W) => ((HPO.out.keep fun p (hp : p.block < w6.heap.size) => (hb7.trans (h.mono hz7)).cell (p := p) hp).more (fun b (hb : b < w6.heap.size) => by show b < W.heap.size; have := h.size; omega) : RdPo W (· < W.heap.size) (.slice la ll lc) l))
      have HBWf := hid (fun W (h : Below w7.heap.size w7 W) => HBW.out.trans ((hb7.trans (h.mono hz7)).mono HBW.out.size))
      have HRWf := hid (fun W (h : Below w7.heap.size w7 W) => own_later HROW7.out h)
      have HCOf := hid (fun W (h : Below w7.heap.size w7 W) => (⟨cv, by rw [HYE.out]; exact (hnest.below (fun i _ => keeps_cl _ _) h (Nat.le_refl _) (by have := HBW.out.size; have := HTB.out.lt; omega))⟩ : CoSt W w6.heap.size 39 (.slice za M zc) ys))
      have HTB6 := hid (fun W (h : Below w6.heap.size w6 W) => (HTB.out.below h HTB.out.lt : BoxN W w2.heap.size 29 #[.int .i64 1, .string nm, .slice va L vc]))
      have HRT6 := hid (fun W (h : Below w6.heap.size w6 W) => rdCo_next HRT.out h)
      have HBW6 := hid (fun W (h : Below w6.heap.size w6 W) => HBW.out.trans (h.mono HBW.out.size))
      have HB67 := hid hb7
      have hrl := hnest.row.lt
      clear hnest hb7 HTB HYB HRT HRY HPO HBW HCP
      obtain ⟨X9, hX9⟩ : ∃ X, X = w7.alloc (.cells #[.int .i64 77, .string otherB, .slice za M zc] 29) := ⟨_, rfl⟩
      have hb9 := BoxN.new w7 #[.int .i64 77, .string otherB, .slice za M zc] 29
      have hs9 := (Below.refl w7.heap.size w7).alloc (Nat.le_refl _) (.cells #[.int .i64 77, .string otherB, .slice za M zc] 29)
      rw [← hX9] at hb9 hs9
      have HCB9 : Hid (BoxN X9 w7.heap.size 29 #[.int .i64 77, .string otherB, .slice za M zc]) := hid hb9
      have HS9 := hid hs9
      have hsz9 := HCB9.out.lt
      have HFI2 := hid (expl_Find ⟨1, nm, xs⟩ ⟨77, otherB, ys⟩ (.slice va L vc) (.slice za M zc) X9.heap.size X9 HTV.out HTVO.out HFW.out (HRTf.out X9 hs9) ((CoSt.read (HCOf.out X9 hs9)).more fun b hb => hb.2) (Nat.le_refl _) (HT.out.below (HBWf.out X9 hs9)))
      simp only at HFI2
      rw [HF.out] at HFI2
      have x0 := (HTBf.out X9 hs9).cell 0 rfl
      have x1 := (HTBf.out X9 hs9).cell 1 rfl
      have x2 := (HTBf.out X9 hs9).cell 2 rfl
      have y0 := HCB9.out.cell 0 rfl
      have y1 := HCB9.out.cell 1 rfl
      have y2 := HCB9.out.cell 2 rfl
      rw [hX9] at x0 x1 x2 y0 y1 y2
      have eo : otherB = ⟨#[111, 116, 104, 101, 114]⟩ := rfl
      rw [eo] at x0 x1 x2 y0 y1 y2
      clear eo hb9 hs9
      go_wp2_with fail
      rw [show (⟨#[111, 116, 104, 101, 114]⟩ : ByteArray) = otherB from rfl, ← hX9]
      clear hX9 x0 x1 x2 y0 y1 y2
      with_reducible refine HFI2.out.mono ?_
      rintro e w10 ⟨mv, rfl, hpo10, hb10⟩
      have HS10 := hid (HS9.out.trans (hb10.mono HS9.out.size))
      have HCB10 := hid (HCB9.out.below hb10 hsz9)
      have hpo2 : RdPo w10 (· < w10.heap.size) mv l := by rw [HLF.out]; exact hpo10
      obtain ⟨ma, mc, rfl⟩ := rdPo_len hpo2
      rw [HLL.out] at hpo2
      rw [HLL.out, HFS.out]
      have HSM := hid (ref_SameOps (.slice la ll lc) (.slice ma ll mc) l w10.heap.size w10 (HPOf.out w10 HS10.out) hpo2 (Nat.le_refl _))
      clear hpo2 hpo10 hb10 HFI2
      go_wp2_with fail
      with_reducible refine HSM.out.mono ?_
      rintro e w11 ⟨rfl, hb11⟩
      have HS11 := hid (HS10.out.trans (hb11.mono HS10.out.size))
      have HCB11 := hid (HCB10.out.below hb11 HCB10.out.lt)
      have hsz11 := HS11.out.size
      clear hb11 HSM HCB10 HS10 HCB9 HS9 hsz9
      obtain ⟨X12, hX12⟩ : ∃ X, X = w11.alloc (.cells #[.string strangeB, .slice none 0 0] 39) := ⟨_, rfl⟩
      have hs12 := (Below.refl w11.heap.size w11).alloc (Nat.le_refl _) (.cells #[.string strangeB, .slice none 0 0] 39)
      have hb12 := BoxN.new w11 #[.string strangeB, .slice none 0 0] 39
      rw [← hX12] at hs12 hb12
      have HS12 := hid (HS11.out.trans (hs12.mono hsz11))
      have HSS12 := hid hs12
      have HB12 := hid hb12
      have HRO := hid (ref03_Rows 2 nm (.slice v2a M v2c) ys X12.heap.size X12 (HRYf.out X12 HS12.out) (Nat.le_refl _))
      have y0 := (HYBf.out X12 HS12.out).cell 0 rfl
      have y1 := (HYBf.out X12 HS12.out).cell 1 rfl
      have y2 := (HYBf.out X12 HS12.out).cell 2 rfl
      rw [hX12] at y0 y1 y2
      have eo : strangeB = ⟨#[115, 116, 114, 97, 110, 103, 101]⟩ := rfl
      rw [eo] at y0 y1 y2
      clear eo
      clear hs12 hb12
      go_wp2_with fail
      rw [show (⟨#[115, 116, 114, 97, 110, 103, 101]⟩ : ByteArray) = strangeB from rfl, ← hX12]
      clear hX12 y0 y1 y2
      with_reducible refine HRO.out.mono ?_
      rintro e w13 ⟨rfl, hb13⟩
      have HB13 := hid (HB12.out.below hb13 HB12.out.lt)
      have HS13 := hid (HSS12.out.trans (hb13.mono HSS12.out.size))
      have hsz13 := HB13.out.lt
      have hR := rowsC_le HTW.out
      clear hb13 HRO HB12 HSS12 HS12
      generalize hRR : rowsC ys = R at *
      have HRR := hid hRR
      clear hRR
      obtain ⟨i0, hi, hz0, hz1, hz2⟩ := info_parts info_cell
      obtain ⟨i1, hi1, hy0, hy1, hy2⟩ := info_parts info_col
      go_wp2_with fail
      subst hLA
      go_loopg [60] R (fun N i wr => ∃ (q : Nat) (y : Value), i = .int .i64 (q : Int) ∧ q + N = R ∧ Hid (GrowSt w11 w13 wr w11.heap.size w13.heap.size 39 (fun z => #[.string strangeB, z]) 42 2 y q (flatK 2 q (clF (nullsL q)))))
      case atStart => exact ⟨0, .slice none 0 0, rfl, by omega, hid ⟨HS13.out, HB13.out, World.ownsRow_nil _ _ _ _, Nat.le_refl _, fun _ _ _ => rfl⟩⟩
      case round =>
        obtain ⟨q, y, rfl, hq, HST⟩ := hrel
        have hlo := HST.out.low
        obtain ⟨ya, yc, rfl⟩ := own_slice HST.out.own
        by_cases hp : 0 < gk
        · have hqR : (q : Int) < (R : Int) := by omega
          have s1 : wr.cell? ⟨w11.heap.size, 1, none⟩ = some (.slice ya q yc) := HST.out.box.cell 1 rfl
          have HST1 := hid (HST.out.later (W' := wr.alloc (.cells #[.bool true, .string ⟨#[]⟩] 42)) ((Below.refl _ _).alloc (Nat.le_refl _) _) HST.out.bel.size)
          have HOB := hid HST1.out.own.lt
          go_wp2_with (at_builtin; refine wpList_append_form _ rfl _ _ 37 37 rfl w13.heap.size 42 42 i0 (.agg #[.bool false, .string ⟨#[]⟩]) 2 24 Tryz.underlying37 Tryz.underlying37 hi hz0 hz1 hz2 rfl (by decide) (.slice ya q yc) q _ rfl HST1.out.own (some ⟨_, 0, none⟩) 1 1 [.bool true, .string ⟨#[]⟩] rfl rfl (fun _ => ⟨_, rfl, cell_two_at _ _ _ (by simp)⟩) (by intro u hu; simp at hu; rcases hu with rfl | rfl <;> rfl) (by omega) (by unfold maxLen; omega) (by omega) (by simp; omega) ?_; intro p7 cap7 w8 hown7 hg7 hat7 hlt7; have hbx7 := HST1.out.box.grown hg7 (fun e => by have := (HOB.out _ e.symm).1; omega); have q1 : w8.cell? ⟨w11.heap.size, 1, none⟩ = some (.slice ya q yc) := hbx7.cell 1 rfl; have fq1 := hbx7.frozen 1; have HG7 := hid hg7; have HOWN7 := hid hown7; clear hown7 hg7 hat7 hbx7)
          go_wp2
          go_roundg (gk - 1)
          case rel => exact ⟨q + 1, _, by go_num, by omega, hid (HST1.out.push (by rw [← nulls_push]; exact HOWN7.out) HG7.out 1 rfl (by omega) (Nat.le_refl _))⟩
          case measure => omega
        · obtain rfl : gk = 0 := by omega
          obtain rfl : R = q := by omega
          have HE := hid (HS11.out.trans (HST.out.bel.mono hsz11))
          have hcb := HCB11.out.below HST.out.bel HCB11.out.lt
          have hcl := HCB11.out.lt
          have hsw := HST.out.bel.size
          obtain ⟨X17, hX17⟩ : ∃ X, X = wr.alloc (.cells #[.string strangeB, .slice ya R yc] 39) := ⟨_, rfl⟩
          have hs17 := (Below.refl wr.heap.size wr).alloc (Nat.le_refl _) (.cells #[.string strangeB, .slice ya R yc] 39)
          have hn17 := BoxN.new wr #[.string strangeB, .slice ya R yc] 39
          rw [← hX17] at hs17 hn17
          have hz17 := hn17.lt
          have HE17 := hid (HE.out.trans (hs17.mono HE.out.size))
          have HN17 := hid hn17
          have HCB17 := hid (hcb.below hs17 hcb.lt)
          have HRW17 := hid (HRWf.out X17 HE17.out)
          have HU17 : Hid (RdCl X17 (fun b => w13.heap.size ≤ b ∧ b < wr.heap.size) (.slice ya R yc) (nullsL R)) := hid ((rdCl_of_own (w := wr) (base := w13.heap.size) (e := 42) (by rw [nulls_len]; exact HST.out.own)).keep fun p hp => hs17.cell (p := p) hp.2)
          have s0 : wr.cell? ⟨w11.heap.size, 0, none⟩ = some (.string strangeB) := HST.out.box.cell 0 rfl
          have s1 : wr.cell? ⟨w11.heap.size, 1, none⟩ = some (.slice ya R yc) := HST.out.box.cell 1 rfl
          have c2 := hcb.cell 2 rfl
          have q0 := HN17.out.cell 0 rfl
          clear hs17 hn17 hcb
          subst hX17
          go_wp2_with (at_builtin; refine wpList_append_form _ rfl _ _ 27 27 rfl w6.heap.size 39 39 i1 (.agg #[.string ⟨#[]⟩, .slice none 0 0]) 2 40 Tryz.underlying27 Tryz.underlying27 hi1 hy0 hy1 hy2 rfl (by decide) (.slice za M zc) M _ rfl HRW17.out (some ⟨_, 0, none⟩) 1 1 [.string strangeB, .slice ya R yc] rfl rfl (fun _ => ⟨_, rfl, World.news_of_block HN17.out⟩) (by intro u hu; simp at hu; rcases hu with rfl | rfl <;> rfl) (by omega) (by unfold maxLen; omega) (by omega) (by simp; omega) ?_; intro p7 cap7 w18 hown7 hg7 hat7 hlt7; have hbx7 := HCB17.out.grown hg7 (fun e => by have := hrl _ e.symm; omega); have q1 := hbx7.cell 2 rfl; have fq1 := hbx7.frozen 2; have HBX := hid (hbx7.set 2 (.slice (some ⟨p7, 0, none⟩) (M + 1) cap7)); have hs17 := HB67.out.trans (HE17.out.mono hz7); have hs18 := hs17.trans (⟨hg7.os, hg7.tape, hg7.output, hg7.size, fun k hk => hg7.block k (Nat.lt_of_lt_of_le hk hs17.size) (fun e => by have := (hrl _ e.symm).1; omega)⟩ : Below w6.heap.size _ w18); have HS19 := hid (hs18.setCell (p := ⟨w7.heap.size, 2, none⟩) hz7 (.slice (some ⟨p7, 0, none⟩) (M + 1) cap7)); have HG7 := hid hg7; have HOWN7 := hid hown7; have HAT7 := hid hat7; clear hown7 hg7 hat7 hbx7 hs17 hs18; have x0 := (HTB6.out _ HS19.out).cell 0 rfl; have x1 := (HTB6.out _ HS19.out).cell 1 rfl; have x2 := (HTB6.out _ HS19.out).cell 2 rfl; have y0 := HBX.out.cell 0 rfl; have y1 := HBX.out.cell 1 rfl; have y2 := HBX.out.cell 2 rfl)
          clear x0 x1 x2 y0 y1 y2 q1 fq1 c2 q0 s0 s1
          have hg7 := HG7.out
          have hzo : (wr.alloc (.cells #[.string strangeB, .slice ya R yc] 39)).heap.size = wr.heap.size + 1 := by simp
          have hsz18 := hg7.size
          have hp7 : p7 ≠ w7.heap.size := by
            rcases HAT7.out with h | h
            · have := (hrl _ h).2; omega
            · omega
          have hp7l := (HOWN7.out.lt p7 rfl).2
          have hc18 : ∀ p : Addr, p.block < (wr.alloc (.cells #[.string strangeB, .slice ya R yc] 39)).heap.size → (Value.slice za M zc).ownBlock ≠ some p.block → w18.cell? p = (wr.alloc (.cells #[.string strangeB, .slice ya R yc] 39)).cell? p := fun p h1 h2 => World.cell?_of_block (hg7.block _ h1 (fun e => h2 e.symm))
          have hrd : RdCo w18 (fun b => b = p7 ∨ (b < w18.heap.size ∧ b ≠ w7.heap.size)) (.slice (some ⟨p7, 0, none⟩) (M + 1) cap7) (ys ++ [⟨strangeB, nullsL R⟩]) := by
            refine rdCo_pushed HYE.out.symm HOWN7.out (fun i hi => ?_) ?_
            · have hk := HKID7.out i (by rw [← HYE.out]; exact hi)
              exact (RdCl.keep hk fun p hp => (hc18 p (by have := hp.2.1; omega) hp.2.2).trans (HE17.out.cell (p := p) hp.2.1)).more fun b hb => ⟨by have := hb.2.1; omega, by have := hb.2.1; omega⟩
            · exact (HU17.out.keep fun p hp => hc18 p (by have := hp.2; omega) (fun e => by have := (hrl _ e).2; have := hp.1; omega)).more fun b hb => ⟨by have := hb.2; omega, by have := hb.1; omega⟩
          have hrz := (hrd.keep (w' := w18.setCell ⟨w7.heap.size, 2, none⟩ (.slice (some ⟨p7, 0, none⟩) (M + 1) cap7)) fun p hp => World.cell?_setCell_other _ _ _ _ (by
            intro e
            subst e
            rcases hp with h | h
            · exact hp7 h.symm
            · exact h.2 rfl)).more (S' := (· < (w18.setCell ⟨w7.heap.size, 2, none⟩ (.slice (some ⟨p7, 0, none⟩) (M + 1) cap7)).heap.size)) fun b hb => by
              rw [World.size_setCell]
              rcases hb with h | h
              · rw [h]; exact hp7l
              · exact h.1
          have hF3 : findL xs (ys ++ [⟨strangeB, nullsL R⟩]) = none := find_missing (List.mem_append_right _ (List.mem_singleton.2 rfl)) (strange_not HOKK.out)
          have HFI3 := hid (expl_Find ⟨1, nm, xs⟩ ⟨77, otherB, ys ++ [⟨strangeB, nullsL R⟩]⟩ (.slice va L vc) (.slice (some ⟨p7, 0, none⟩) (M + 1) cap7) _ (w18.setCell ⟨w7.heap.size, 2, none⟩ (.slice (some ⟨p7, 0, none⟩) (M + 1) cap7)) HTV.out HTVS.out HFW.out (HRT6.out _ HS19.out) hrz (Nat.le_refl _) (HT.out.below (HBW6.out _ HS19.out)))
          simp only at HFI3
          rw [hF3] at HFI3
          clear hg7 hrd hrz hc18 hF3
          with_reducible refine HFI3.out.mono ?_
          rintro e w20 ⟨nv, rfl, hpo20, hb20⟩
          have hpo0 : RdPo w20 (· < w20.heap.size) nv [] := hpo20
          obtain ⟨na, nc, rfl⟩ := rdPo_len hpo0
          have HBW20 := hid ((HBW6.out _ HS19.out).trans (hb20.mono (HBW6.out _ HS19.out).size))
          simp only [List.length_nil, Option.isSome_none]
          clear hpo0 hpo20 hb20
          go_wp2_with fail
          with_reducible refine (HAW.out w20 HBW20.out).mono ?_
          rintro e w21 ⟨rfl, hb21⟩
          have HF9 := hid (HBW20.out.trans (hb21.mono HBW20.out.size))
          go_wp2
          go_ret
          exact ⟨rfl, HF9.out⟩
  · have HLI := hid (kit_Light a n c w hnm)
    rw [decide_eq_false hg] at HLI
    go_enter Tryz.func3, Tryz.ntmps3
    go_wp2_with fail
    with_reducible refine HLI.out.mono ?_
    rintro e w0 ⟨rfl, rfl⟩
    go_wp2_with fail
    with_reducible refine (HAW.out w (Below.refl _ _)).mono ?_
    rintro e w4 ⟨rfl, hb4⟩
    go_wp2
    go_ret
    exact ⟨rfl, hb4⟩
end Go.Proofs.YtfmlpaplnkohpaaGreatDoor

namespace Go.Proofs.YtfmlpaplnkohpaaGreatDoor
open Go.RowKit

/-- A slice of bytes that came in. -/
def RdU (w : World) (B : Nat) (a : Option Addr) (n c : Nat) : Prop :=
  n ≤ c ∧ c ≤ maxLen ∧ (0 < n → ∃ b o, a = some ⟨b, o, none⟩ ∧ b < B ∧ ∀ i, i < n → ∃ x : Nat, x < 256 ∧ w.cell? ⟨b, o + i, none⟩ = some (.int .u8 (x : Int)))

end Go.Proofs.YtfmlpaplnkohpaaGreatDoor

namespace Go.Proofs.YtfmlpaplnkohpaaGreatDoor
open Go.ChangeShapes Go.WideShapes Go.ChangeAt Go.RowKit Go.Lib
set_option linter.unusedVariables false

theorem kOwn : ownKnob Tryz.prog.godebug = none := by kernel_rfl
theorem kLaid : laidOutB Tryz.prog = true := by kernel_rfl
theorem kCells : Tryz.prog.cellsOf 5 = 1 := by kernel_rfl
theorem kCellsS : Tryz.prog.cellsOf 9 = 1 := by kernel_rfl

/-- the heap of the door's own run, with the pinned table in it -/
noncomputable def laidWorld (os : Os) : World :=
  let w0 := World.doorLaid Tryz.prog 400 os
  { w0 with heap := w0.heap.modify 0 fun
      | .cells _ t frozen => .cells (Lib.firstTab.map fun z => Value.int .u8 z).toArray t frozen
      | o => o }

theorem tabs_of {l : List (String × DataW Unit)} {W : World} (h : laidMet Tryz.prog l W) (h1 : ("unicode/utf8.first", Rows.laid_unicode_utf8_first) ∈ l) (h2 : ("unicode/utf8.acceptRanges", Rows.laid_unicode_utf8_acceptRanges) ∈ l) : Tabs W := by
  have e1 : (Rows.laid_unicode_utf8_first : DataW Unit) = Lib.firstData := Go.Pinned.utf8First_eq
  have e2 : (Rows.laid_unicode_utf8_acceptRanges : DataW Unit) = Lib.acceptData := by kernel_rfl
  have r1 := Lib.laidMet.reads h h1
  have r2 := Lib.laidMet.reads h h2
  rw [e1] at r1
  rw [e2] at r2
  exact utf8Tabs_of_readsT (U8Types.of196 Tryz.layValid) ⟨by kernel_rfl, by kernel_rfl, by kernel_rfl, by kernel_rfl, by kernel_rfl, by kernel_rfl, by kernel_rfl⟩ r1 r2

theorem rdU_of {W : World} {a : Addr} {len cap : Nat} {zs : List Int} (hl : len ≤ cap) (hm : cap ≤ maxLen) (hz : zs.length = cap) (hcell : ∀ i, i < zs.length → W.cell? (a.add i) = some (.int .u8 (zs.getD i 0))) (hw : ∀ n ∈ zs, (Lit.int .u8 n).wf = true) :
    RdU W W.heap.size (some a) len cap := by
  refine ⟨hl, hm, fun hp => ?_⟩
  obtain ⟨b, o, spot⟩ := a
  have hspot : spot = none := by simpa [Addr.add] using World.cell?_spot (hcell 0 (by omega))
  subst hspot
  have hlt : b < W.heap.size := by
    have h := hcell 0 (by omega)
    exact World.block_lt_of_cell? W (Addr.add ⟨b, o, none⟩ 0) h
  refine ⟨b, o, rfl, hlt, fun i hi => ?_⟩
  have hi' : i < zs.length := by omega
  have hb := bounds_u8 (hw (zs.getD i 0) (by simp [List.getD, hi']))
  refine ⟨(zs.getD i 0).toNat, by omega, ?_⟩
  rw [show (((zs.getD i 0).toNat : Nat) : Int) = zs.getD i 0 from by omega, ← Addr.add_lit]
  exact hcell i hi'
theorem rdS_open {W : World} {a : Addr} {len cap : Nat} {ss : List ByteArray} (hl : len ≤ cap) (hm : cap ≤ maxLen) (hs : ss.length = cap) (hcell : ∀ i, i < ss.length → W.cell? (a.add i) = some (.string (ss.getD i ByteArray.empty))) :
    RdS W W.heap.size (.slice (some a) len cap) (ss.take len) := by
  have hlen : (ss.take len).length = len := by rw [List.length_take]; omega
  refine ⟨some a, cap, by rw [hlen], by rw [hlen]; exact hl, hm, fun hp => ?_⟩
  rw [hlen] at hp
  obtain ⟨b, o, spot⟩ := a
  have hspot : spot = none := by simpa [Addr.add] using World.cell?_spot (hcell 0 (by omega))
  subst hspot
  refine ⟨b, o, rfl, World.block_lt_of_cell? W (Addr.add ⟨b, o, none⟩ 0) (hcell 0 (by omega)), fun i hi => ?_⟩
  rw [hlen] at hi
  rw [← Addr.add_lit, hcell i (by omega)]
  have hi' : i < ss.length := by omega
  simp [strF, List.getD, hi']
  rw [List.getElem?_take, if_pos hi]
  simp [hi']

end Go.Proofs.YtfmlpaplnkohpaaGreatDoor

namespace Go.Proofs.YtfmlpaplnkohpaaGreatDoor
open Go.ChangeShapes Go.RowKit Go.Lib

theorem tabIs_of_reads {P : Program} {W : World} {name : String} {k : IntKind} {zs : List Int} {g : Nat} {t e : TypeId} {n : Nat}
    (hg : P.globalNamed name = some g) (hty : (P.globals[g]?).map (·.type) = some t) (ht : P.underlying t = some (.array n e)) (he : P.underlying e = some (.int k)) (hce : P.cellsOf e = 1) (hct : P.cellsOf t = n)
    (h : VarReads P W name (tabData k zs)) : TabIs P W name k zs := by
  obtain ⟨g', t', cs, fuel, p, hg', ht', hvar, hd⟩ := h
  obtain rfl := Option.some.inj (hg.symm.trans hg')
  obtain rfl := Option.some.inj (hty.symm.trans ht')
  unfold TabIs
  rw [hvar, ← cells_of_tab ht he hce hct hd]
theorem pow_of {l : List (String × DataW Unit)} {W : World} (h : laidMet Tryz.prog l W) (h1 : ("internal/strconv.uint64pow10", Rows.laid_internal_strconv_uint64pow10) ∈ l) : Pow W := by
  have e1 : (Rows.laid_internal_strconv_uint64pow10 : DataW Unit) = tabData .u64 pow10Tab := by kernel_rfl
  have r1 := laidMet.reads h h1
  rw [e1] at r1
  exact tabIs_of_reads pow_named (t := 200) (e := 153) (n := 20) (by kernel_rfl) (by kernel_rfl) (by kernel_rfl) (by kernel_rfl) (by kernel_rfl) r1

theorem kCellsI : Tryz.prog.cellsOf 3 = 1 := by kernel_rfl
theorem rdI_of {W : World} {a : Addr} {len cap : Nat} {zs : List Int} (hl : len ≤ cap) (hm : cap ≤ maxLen) (hz : zs.length = cap) (hcell : ∀ i, i < zs.length → W.cell? (a.add i) = some (.int .i64 (zs.getD i 0))) (_hw : ∀ n ∈ zs, (Lit.int .i64 n).wf = true) :
    RdI W W.heap.size (some a) len cap := by
  refine ⟨hl, hm, fun hp => ?_⟩
  obtain ⟨b, o, spot⟩ := a
  have hspot : spot = none := by simpa [Addr.add] using World.cell?_spot (hcell 0 (by omega))
  subst hspot
  have hlt : b < W.heap.size := by
    have h := hcell 0 (by omega)
    exact World.block_lt_of_cell? W (Addr.add ⟨b, o, none⟩ 0) h
  refine ⟨b, o, rfl, hlt, fun i hi => ⟨zs.getD i 0, ?_⟩⟩
  rw [← Addr.add_lit]
  exact hcell i (by omega)

end Go.Proofs.YtfmlpaplnkohpaaGreatDoor
