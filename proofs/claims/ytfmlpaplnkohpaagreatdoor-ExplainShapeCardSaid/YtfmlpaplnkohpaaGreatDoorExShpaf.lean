/- The walk of ExplainShape. A slice of bytes that came in. No program in sight. Go's own tables where the call begins; how a list of texts is opened. Go's own table of powers of ten, where the call begins. -/
import Derived.Deep.Cut
import Derived.Deep.CutRange
import Derived.Test.YtfmlpaplnkohpaaGreatDoorExOpsbh
import Derived.Test.YtfmlpaplnkohpaaGreatDoorExShpaa
import Derived.Test.YtfmlpaplnkohpaaGreatDoorExShpae
import Derived.Test.YtfmlpaplnkohpaaGreatDoorExOpsaa
import Derived.Test.YtfmlpaplnkohpaaGreatDoorExOpsad
import Derived.Test.YtfmlpaplnkohpaaGreatDoorTie
import Derived.Test.YtfmlpaplnkohpaaGreatDoorCards
import Derived.Carry
import Derived.SizedLaws
import Derived.ProofKit
import Derived.OpenShut
import Derived.ChangeSlices
import Derived.SliceStrings
import Derived.LaidLaws
import Derived.LaidMore
import Derived.Lib.LaidU8T
import Derived.PinnedBridge
import Derived.SevenTiedAt
import Derived.Test.YtfmlpaplnkohpaaGreatDoorExOpsbg
set_option linter.unusedVariables false
set_option linter.unusedSimpArgs false
namespace Go.Proofs.YtfmlpaplnkohpaaGreatDoor
open Go.RowKit

/-- the rank before -/
def lastP (os : List Po) : Nat → Nat
  | 0 => 0
  | q + 1 => rankP (os.getD q Po.z).kind
theorem last_lt {l : List Po} {xs ys : List Co} (h : findL xs ys = some l) {q : Nat} (hq : q < l.length) : lastP l q < rankP (l.getD q Po.z).kind := by
  obtain ⟨hp, h0⟩ := shape_rank h
  cases q with
  | zero => exact h0 _ (getD_mem hq Po.z)
  | succ q =>
    have h1 := List.pairwise_iff_getElem.1 hp q (q + 1) (by simp; omega) (by simpa using hq) (by omega)
    simpa [lastP, List.getD, hq, show q < l.length by omega] using h1
theorem rank_kinds {k : Int} (h : 0 < rankP k) : k = 1 ∨ k = 2 ∨ k = 3 ∨ k = 4 ∨ k = 5 := by
  unfold rankP at h
  split at h
  · omega
  · split at h
    · omega
    · split at h
      · omega
      · split at h
        · omega
        · omega
theorem op_three {xs ys : List Co} {l : List Po} (h : findL xs ys = some l) {o : Po} (ho : o ∈ l) (hk : o.kind = 3) : o = opProj (fromL xs ys) ∧ ∀ c ∈ ys, c.name ∈ namesL xs := by
  obtain ⟨f, p, e, hf, hp, he, rfl, -, -⟩ := find_shape h
  obtain ⟨h1, h2⟩ := proj_form hp
  rcases List.mem_append.1 ho with ho | ho
  · rcases List.mem_append.1 ho with ho | ho
    · have := filters_kind hf o ho
      omega
    · rcases h2 with ⟨rfl, -⟩ | rfl
      · cases ho
      · exact ⟨List.mem_singleton.1 ho, h1⟩
  · have := ends_kind he o ho
    omega

set_option maxRecDepth 100000 in
set_option maxHeartbeats 8000000 in
theorem law38_shape (a : Option Addr) (n c : Nat) (w : World) (hA : RdI w w.heap.size a n c) (hT : Tabs w) (hP : Pow w) :
    Calls Tryz.prog 6 #[.slice a n c] w (Ret w (.bool true)) := by
  have HA := hid hA
  have HT := hid hT
  have HP := hid hP
  have hnm : n ≤ maxLen := Nat.le_trans hA.1 hA.2.1
  have HAW := hid (fun W (hW : Below w.heap.size w W) => law38_awake W (hT.below hW))
  clear hA hT hP
  by_cases hg : n ≤ 500
  · have HLI := hid (kit_Light a n c w hnm)
    rw [decide_eq_true hg] at HLI
    go_enter Tryz.func6, Tryz.ntmps6
    generalize hLA : Code.loop _ = LA
    go_wp2_with fail
    with_reducible refine HLI.out.mono ?_
    rintro e w0 ⟨rfl, rfl⟩
    clear HLI
    go_wp2_with fail
    with_reducible refine (kit_Roll a n c _ HA.out hg HP.out).mono ?_
    rintro e w1 ⟨rfl, hd1, hb1⟩
    have HB1 := hid hb1
    have hz1 := hd1.lt
    have HKT : Hid (Calls Tryz.prog 14 #[.pointer (some ⟨w.heap.size, 0, none⟩), .int .i64 1] w1 (KTab w1 w.heap.size 1)) := hid (kit_Table w.heap.size 1 w1 hd1)
    clear hd1 hb1
    go_wp2_with fail
    with_reducible refine HKT.out.mono ?_
    rintro e w2 ⟨⟨id, nm, xs⟩, v, rfl, hid1, hok, hco, hd2, hr2⟩
    simp only at hid1 hok hco
    subst hid1
    have hz2 := hr2.size
    have HB2 := hid (HB1.out.trans (hr2.below (B' := w.heap.size) (Nat.le_refl _) (by omega)))
    have hrd := hco.read
    obtain ⟨va, vc, rfl⟩ := rdCo_len hrd
    have HFW := hid (ktab_few hok)
    have hl64 : xs.length ≤ 64 := by have := hok.2.1; simp only at this; omega
    have HTV := hid (hok.valid (by simp) (by simp))
    simp only at HFW
    have HD3 := hid (hd2.alloc (.cells #[.int .i64 1, .string nm, .slice va xs.length vc] 29))
    have HTB3 := hid (BoxN.new w2 #[.int .i64 1, .string nm, .slice va xs.length vc] 29)
    have HBW3 := hid (HB2.out.alloc (by omega) (.cells #[.int .i64 1, .string nm, .slice va xs.length vc] 29))
    have HRT3 : Hid (RdCo (w2.alloc (.cells #[.int .i64 1, .string nm, .slice va xs.length vc] 29)) (fun b => w1.heap.size ≤ b ∧ b < w2.heap.size) (.slice va xs.length vc) xs) := hid (hrd.keep fun p hp => World.cell?_alloc_lt _ _ _ hp.2)
    have hz3 : (w2.alloc (.cells #[.int .i64 1, .string nm, .slice va xs.length vc] 29)).heap.size = w2.heap.size + 1 := by simp
    clear hrd hco hd2 hr2 hok HKT HP HA
    obtain ⟨L, hxl⟩ : ∃ L, L = xs.length := ⟨_, rfl⟩
    rw [← hxl] at HD3 HTB3 HBW3 HRT3 hz3 hl64
    rw [← hxl]
    have HXE := hid hxl.symm
    clear hxl
    obtain ⟨W3, hW3⟩ : ∃ W3, W3 = w2.alloc (.cells #[.int .i64 1, .string nm, .slice va L vc] 29) := ⟨_, rfl⟩
    have x0 := HTB3.out.cell 0 rfl
    have x1 := HTB3.out.cell 1 rfl
    have x2 := HTB3.out.cell 2 rfl
    rw [← hW3] at HD3 HTB3 HBW3 HRT3 hz3
    have hz3a := Nat.le_of_eq hz3
    have hz3b := Nat.le_of_eq hz3.symm
    clear hz3
    have HKD := hid (kit_Derived w.heap.size ⟨1, nm, xs⟩ (.slice va L vc) 2 W3 HD3.out ⟨w, HT.out, Nat.le_refl _, HBW3.out⟩ HTV.out (HRT3.out.more fun b hb => ⟨by have := hb.2; omega, by have := hb.1; omega⟩))
    simp only at HKD
    go_wp2_with fail
    rw [← hW3]
    clear hW3 x0 x1 x2
    with_reducible refine HKD.out.mono ?_
    rintro e w4 ⟨nm2, ys, v2, rfl, htw, hco, -, hr4⟩
    have hz4 := hr4.size
    have HBW4 := hid (HBW3.out.trans (hr4.below (B' := w.heap.size) (Nat.le_refl _) (by omega)))
    have HTB4 := hid (HTB3.out.roll hr4 HTB3.out.lt (by omega))
    have HRT4 : Hid (RdCo w4 (· < w4.heap.size) (.slice va L vc) xs) := hid ((HRT3.out.keep fun p hp => hr4.cell (p := p) (by have := hp.2; omega) (by have := hp.1; omega)).more fun b hb => by have := hb.2; omega)
    have hrd := hco.read.more (S' := (· < w4.heap.size)) fun b hb => hb.2
    obtain ⟨v2a, v2c, rfl⟩ := rdCo_len hrd
    have HTV2 := hid (htw.tab (id := 2) (by omega) (by omega))
    have hlm : ys.length ≤ 64 := htw.2.1
    obtain ⟨M, hyl⟩ : ∃ M, M = ys.length := ⟨_, rfl⟩
    rw [← hyl] at hrd hlm
    rw [← hyl]
    have HYE := hid hyl.symm
    have HRY4 := hid hrd
    clear hyl hrd hco hr4 htw HTB3 HRT3 HBW3 HD3 HKD
    obtain ⟨X5, hX5⟩ : ∃ X, X = w4.alloc (.cells #[.int .i64 2, .string nm2, .slice v2a M v2c] 29) := ⟨_, rfl⟩
    have hsx := (Below.refl w4.heap.size w4).alloc (Nat.le_refl _) (.cells #[.int .i64 2, .string nm2, .slice v2a M v2c] 29)
    have hbx := BoxN.new w4 #[.int .i64 2, .string nm2, .slice v2a M v2c] 29
    rw [← hX5] at hsx hbx
    have HTB5 := hid (HTB4.out.below hsx HTB4.out.lt)
    have HRT5 := hid (rdCo_next HRT4.out hsx)
    have HYB5 := hid hbx
    have HRY5 := hid (rdCo_next HRY4.out hsx)
    have HBW5 := hid (HBW4.out.trans (hsx.mono HBW4.out.size))
    have HFI := hid (expl_Find ⟨1, nm, xs⟩ ⟨2, nm2, ys⟩ (.slice va L vc) (.slice v2a M v2c) X5.heap.size X5 HTV.out HTV2.out HFW.out HRT5.out HRY5.out (Nat.le_refl _) (HT.out.below HBW5.out))
    simp only at HFI
    have x0 := HTB5.out.cell 0 rfl
    have x1 := HTB5.out.cell 1 rfl
    have x2 := HTB5.out.cell 2 rfl
    have y0 := hbx.cell 0 rfl
    have y1 := hbx.cell 1 rfl
    have y2 := hbx.cell 2 rfl
    rw [hX5] at x0 x1 x2 y0 y1 y2
    clear hsx hbx HTB4 HRT4 HRY4 HBW4
    go_wp2_with fail
    rw [← hX5]
    clear hX5 x0 x1 x2 y0 y1 y2
    with_reducible refine HFI.out.mono ?_
    rintro e w6 ⟨lv, rfl, hpo, hb6⟩
    have HTB := hid (HTB5.out.below hb6 HTB5.out.lt)
    have HYB := hid (HYB5.out.below hb6 HYB5.out.lt)
    have HRT := hid (rdCo_next HRT5.out hb6)
    have HRY := hid (rdCo_next HRY5.out hb6)
    have HBW := hid (HBW5.out.trans (hb6.mono HBW5.out.size))
    clear hb6 HTB5 HYB5 HRT5 HRY5 HBW5 HFI
    generalize hF : findL xs ys = F at *
    cases F with
    | none =>
      have hpo0 : RdPo w6 (· < w6.heap.size) lv [] := hpo
      obtain ⟨la, lc, rfl⟩ := rdPo_len hpo0
      clear hpo hpo0
      simp only [List.length_nil, Option.isSome_none]
      go_wp2_with fail
      with_reducible refine (HAW.out w6 HBW.out).mono ?_
      rintro e w7 ⟨rfl, hb7⟩
      have HF := hid (HBW.out.trans (hb7.mono HBW.out.size))
      go_wp2
      go_ret
      exact ⟨rfl, HF.out⟩
    | some l =>
      have hpo1 : RdPo w6 (· < w6.heap.size) lv l := hpo
      have HPO := hid hpo1
      have HF := hid hF
      obtain ⟨la, lc, rfl⟩ := rdPo_len hpo1
      obtain ⟨f, p, e0, hf, hp, he, hle, hl4, hrun⟩ := find_shape hF
      have HRUNS := hid hrun
      have hcan : canRun xs l = true := by
        obtain ⟨m, hm, hcv⟩ := HFW.out
        exact can_found hcv (by rw [HYE.out]; exact hlm) hF
      have HCAN := hid hcan
      clear hpo hpo1 hF hf hp he hle hrun hcan f p e0
      simp only [Option.isSome_some]
      obtain ⟨ll, hll⟩ : ∃ ll, ll = l.length := ⟨_, rfl⟩
      rw [← hll] at hl4 HPO
      rw [← hll]
      have HLL := hid hll.symm
      clear hll
      go_wp2_with fail
      subst hLA
      have hvc : L ≤ vc := by
        obtain ⟨cv, ⟨_, _, e, h, -, -⟩, -⟩ := HRT.out
        obtain ⟨rfl, h1, rfl⟩ := Value.slice.inj e
        omega
      go_loopg [45, 8] ll (fun N j lst wr => ∃ q : Nat, j = .int .i64 (q : Int) ∧ q + N = ll ∧ lst = .int .i64 (lastP l q : Int) ∧ Hid (Below w6.heap.size w6 wr))
      case atStart => exact ⟨0, rfl, by omega, rfl, hid (Below.refl _ _)⟩
      case round =>
        obtain ⟨q, rfl, hq, rfl, HB⟩ := hrel
        obtain ⟨wo, rfl⟩ : ∃ wo, wo = wr := ⟨wr, rfl⟩
        have HTBo := hid (HTB.out.below HB.out HTB.out.lt)
        have HYBo := hid (HYB.out.below HB.out HYB.out.lt)
        have HRTo := hid (rdCo_next HRT.out HB.out)
        have HRYo := hid (rdCo_next HRY.out HB.out)
        have HBWo := hid (HBW.out.trans (HB.out.mono HBW.out.size))
        by_cases hp : 0 < gk
        · have hqL : q < ll := by omega
          obtain ⟨go, rfl⟩ : ∃ go, go = gk := ⟨gk, rfl⟩
          have hws := HB.out.size
          obtain ⟨b, o, c3, uv, e3, hb, hks, -, -, k0, k1, k2, k3⟩ := rdPo_at (HPO.out.keep (w' := wo) fun p (hp : p.block < w6.heap.size) => HB.out.cell (p := p) hp) (q := q) (by rw [HLL.out]; exact hqL)
          rw [HLL.out] at e3
          obtain ⟨rfl, -, rfl⟩ := Value.slice.inj e3
          have hb6 : b < w6.heap.size := hb
          have hlt : lastP l q < rankP (l.getD q Po.z).kind := last_lt HF.out (by rw [HLL.out]; exact hqL)
          have HNEXT : Hid (lastP l (q + 1) = rankP (l.getD q Po.z).kind) := hid rfl
          have HTHREE := hid (fun h => op_three HF.out (getD_mem (l := l) (i := q) (by rw [HLL.out]; exact hqL) Po.z) h)
          obtain ⟨oa, oc, rfl⟩ : ∃ a c, uv = .slice a (l.getD q Po.z).cols.length c := by
            obtain ⟨a, c, e, -⟩ := hks
            exact ⟨a, c, e⟩
          have HKS := hid hks
          clear e3 hks hb
          generalize l.getD q Po.z = P at *
          generalize lastP l q = R0 at *
          obtain ⟨kind, col, text, cols⟩ := P
          simp only at k0 k1 k2 k3 HKS HTHREE HNEXT hlt
          have hk5 := rank_kinds (show 0 < rankP kind by omega)
          obtain ⟨cl, hcl⟩ : ∃ cl, cl = cols.length := ⟨_, rfl⟩
          rw [← hcl] at k3 HKS
          have HCL := hid hcl.symm
          obtain ⟨Wb, hWb⟩ : ∃ W, W = wo.alloc (.cells #[.int .i64 kind, .int .i64 col, .string text, .slice oa cl oc] 47) := ⟨_, rfl⟩
          have hob := BoxN.new wo #[.int .i64 kind, .int .i64 col, .string text, .slice oa cl oc] 47
          have hsb := (Below.refl wo.heap.size wo).alloc (Nat.le_refl _) (.cells #[.int .i64 kind, .int .i64 col, .string text, .slice oa cl oc] 47)
          rw [← hWb] at hob hsb
          have hm0 : (Wb.alloc (.map #[] 0)).heap[Wb.heap.size]? = some (.map #[] 0) := heap_alloc_new Wb _
          have hb0 : Below Wb.heap.size Wb (Wb.alloc (.map #[] 0)) := (Below.refl _ _).alloc (Nat.le_refl _) _
          have ht := Tryz.underlying54
          have hk := Tryz.underlying3
          obtain ⟨W1, r1, m1, -, b1⟩ := known_put (z := 1) ht hk hm0 rfl (.int .i64 1)
          have hb1 := b1 _ _ (Nat.le_refl _) hb0
          obtain ⟨W2, r2, m2, -, b2⟩ := known_put (z := 2) ht hk m1 rfl (.int .i64 1)
          have hb2 := b2 _ _ (Nat.le_refl _) hb1
          obtain ⟨W3m, r3, m3, -, b3⟩ := known_put (z := 3) ht hk m2 rfl (.int .i64 2)
          have hb3 := b3 _ _ (Nat.le_refl _) hb2
          obtain ⟨W4, r4, m4, -, b4⟩ := known_put (z := 4) ht hk m3 rfl (.int .i64 3)
          have hb4 := b4 _ _ (Nat.le_refl _) hb3
          obtain ⟨W5, r5, m5, -, b5⟩ := known_put (z := 5) ht hk m4 rfl (.int .i64 4)
          have hb5 := b5 _ _ (Nat.le_refl _) hb4
          have hlk : (Instr.lookup 54 (.map (some Wb.heap.size)) (.int .i64 kind) false).run Tryz.prog W5 = .ok (.int .i64 (rankP kind : Int)) W5 := by
            rcases hk5 with rfl | rfl | rfl | rfl | rfl
            · exact known_look (i := 0) (v := .int .i64 1) false ht hk m5 rfl
            · exact known_look (i := 1) (v := .int .i64 1) false ht hk m5 rfl
            · exact known_look (i := 2) (v := .int .i64 2) false ht hk m5 rfl
            · exact known_look (i := 3) (v := .int .i64 3) false ht hk m5 rfl
            · exact known_look (i := 4) (v := .int .i64 4) false ht hk m5 rfl
          have HB5 := hid hb5
          have HOB5 := hid (hob.below hb5 hob.lt)
          have hsb5 := hsb.trans (hb5.mono hsb.size)
          have HSB5 := hid hsb5
          have HBX5 := hid (HB.out.trans (hsb5.mono hws))
          clear b1 b2 b3 b4 b5 m1 m2 m3 m4 m5 hb0 hb1 hb2 hb3 hb4 hb5 ht hk hm0 hob hsb hsb5 hk5 hcl
          generalize rankP kind = R1 at *
          have o0 := HOB5.out.cell 0 rfl
          have o3 := HOB5.out.cell 3 rfl
          have hmm := @run_makeMap Tryz.prog
          have hdr : decide ((R1 : Int) ≤ (R0 : Int)) = false := decide_eq_false (by omega)
          generalize hLC : Code.loop _ = LC
          go_upto_region 13 with fail
          rw [← hWb]
          clear hWb k0 k1 k2 k3
          by_cases hk3 : kind = 3
          · subst hk3
            have HP3 := hid (HTHREE.out rfl)
            have hcols : cols = (fromL xs ys).map fun (k : Nat) => (k : Int) := congrArg Po.cols HP3.out.1
            have hfl : (fromL xs ys).length = M := by rw [← HYE.out]; simp [fromL]
            have hclM : cl = M := by rw [← HCL.out, hcols, List.length_map, hfl]
            have HFST := hid (fun i (hi : i < M) => from_first HP3.out.2 (i := i) (by rw [HYE.out]; exact hi))
            have HFLT := hid (fun i (hi : i < M) => (by have h := from_lt HP3.out.2 ((fromL xs ys).getD i 0) (getD_mem (by rw [hfl]; exact hi) 0); rw [HXE.out] at h; exact h : (fromL xs ys).getD i 0 < L))
            have HKC := hid (fun i (hi : i < M) => (by rw [hcols]; simp [List.getD, hfl, hi] : cols.getD i 0 = (((fromL xs ys).getD i 0 : Nat) : Int)))
            clear hcols hfl HTHREE HP3
            generalize fromL xs ys = FR at *
            go_wp2_with fail
            subst hLC
            clear r1 r2 r3 r4 r5 hlk hmm o0 o3 hdr
            go_loopg [64] cl (fun N i W => ∃ t : Nat, i = .int .i64 (t : Int) ∧ t + N = cl ∧ Hid (Below W5.heap.size W5 W))
            case atStart => exact ⟨0, rfl, by omega, hid (Below.refl _ _)⟩
            case round =>
              obtain ⟨t, rfl, ht, HBT⟩ := hrel
              obtain ⟨wt, rfl⟩ : ∃ wt, wt = wr := ⟨wr, rfl⟩
              by_cases hp2 : 0 < gk
              · obtain ⟨gt, rfl⟩ : ∃ g, g = gk := ⟨gk, rfl⟩
                have htM : t < M := by omega
                have HSBt := hid (HSB5.out.trans (HBT.out.mono HSB5.out.size))
                have HTBt := hid (HTBo.out.below HSBt.out HTBo.out.lt)
                have HYBt := hid (HYBo.out.below HSBt.out HYBo.out.lt)
                have HRTt := hid (rdCo_next HRTo.out HSBt.out)
                have HRYt := hid (rdCo_next HRYo.out HSBt.out)
                obtain ⟨b5, o5, c5, e5, hb5, h5⟩ := ks_at (HKS.out.keep (w' := wt) fun p (hp : p.block < w6.heap.size) => HSBt.out.cell (p := p) (by omega)) (k := t) (by rw [HCL.out]; omega)
                rw [HKC.out t htM] at h5
                rw [HCL.out] at e5
                obtain ⟨rfl, -, rfl⟩ := Value.slice.inj e5
                obtain ⟨hnm1, hbef⟩ := HFST.out t htM
                have hkL := HFLT.out t htM
                generalize FR.getD t 0 = kk at *
                obtain ⟨b7, o7, c7, u7, e7, hb7, -, k0, k1⟩ := co_at HRTt.out (q := kk) (by rw [HXE.out]; exact hkL)
                rw [HXE.out] at e7
                obtain ⟨rfl, -, rfl⟩ := Value.slice.inj e7
                obtain ⟨b8, o8, c8, u8, e8, hb8, -, m0, m1⟩ := co_at HRYt.out (q := t) (by rw [HYE.out]; exact htM)
                rw [HYE.out] at e8
                obtain ⟨rfl, -, rfl⟩ := Value.slice.inj e8
                rw [hnm1] at k0
                have HBEF := hid hbef
                have hb8' : b8 < wt.heap.size := hb8
                clear e5 e7 e8 hnm1 hbef hb5 hb7 hb8 k1 m1
                generalize (ys.getD t Co.z).name = s at *
                have t2 := HTBt.out.cell 2 rfl
                have y2 := HYBt.out.cell 2 rfl
                have hts : (s.toList == s.toList) = true := by simp
                have hkLi : (kk : Int) < (L : Int) := by omega
                have htMi : (t : Int) < (M : Int) := by omega
                have hkv : (kk : Int) ≤ (vc : Int) := by omega
                generalize hLD : Code.loop _ = LD
                go_wp2_with fail
                go_quiet (fail)
                have hdn := below_drewN (n := nq) (Below.refl wt.heap.size wt)
                have HDN := hid hdn
                have HTBd := hid (HTBt.out.below hdn HTBt.out.lt)
                have HYBd := hid (HYBt.out.below hdn HYBt.out.lt)
                have HRTd := hid (rdCo_next HRTt.out hdn)
                have m0d := (hdn.cell (p := ⟨b8, o8 + t * 2, none⟩) hb8').trans m0
                have hb8d : b8 < (wt.drewN nq).heap.size := Nat.lt_of_lt_of_le hb8' hdn.size
                clear hdn t2 y2 m0 k0 h5
                generalize wt.drewN nq = wd at *
                have t2 := HTBd.out.cell 2 rfl
                go_wp2_with fail
                subst hLD
                clear t2
                go_loopg [87] kk (fun N j W => ∃ p : Nat, j = .int .i64 (p : Int) ∧ p + N = kk ∧ Hid (Below wd.heap.size wd W))
                case atStart => exact ⟨0, rfl, by omega, hid (Below.refl _ _)⟩
                case round =>
                  obtain ⟨p, rfl, hpk, HBP⟩ := hrel
                  by_cases hp3 : 0 < gk
                  · have hpkk : p < kk := by omega
                    have HRTp := hid (rdCo_next HRTd.out HBP.out)
                    obtain ⟨b9, o9, c9, u9, e9, hb9, hk9, n0, n1⟩ := co_at HRTp.out (q := p) (by rw [HXE.out]; omega)
                    rw [HXE.out] at e9
                    obtain ⟨e14, -, rfl⟩ := Value.slice.inj e9
                    obtain ⟨rfl, rfl⟩ : b9 = b7 ∧ o9 = o7 := by
                      injection e14 with e11
                      injection e11 with e12 e13
                      exact ⟨e12.symm, e13.symm⟩
                    obtain ⟨ua9, uc9, rfl⟩ : ∃ a c, u9 = .slice a (xs.getD p Co.z).cells.length c := by
                      obtain ⟨a, c, e, -⟩ := hk9
                      exact ⟨a, c, e⟩
                    have hne := HBEF.out p hpkk
                    have hyp := HYBd.out.below HBP.out HYBd.out.lt
                    have m0p := (HBP.out.cell (p := ⟨b8, o8 + t * 2, none⟩) hb8d).trans m0d
                    have hb8p : b8 < wr.heap.size := Nat.lt_of_lt_of_le hb8d HBP.out.size
                    clear e9 e14 hk9 hb9
                    generalize (xs.getD p Co.z).cells.length = pn at *
                    generalize (xs.getD p Co.z).name = pm at *
                    have hnn : (pm.toList == s.toList) = false := by
                      cases h5 : (pm.toList == s.toList) with
                      | false => rfl
                      | true => exact absurd (bytes_ext (eq_of_beq h5)) hne
                    have hbx := BoxN.new wr #[.string pm, .slice ua9 pn uc9] 39
                    have z0 := hbx.cell 0 rfl
                    have z1 := (hyp.alloc (.cells #[.string pm, .slice ua9 pn uc9] 39)).cell 2 rfl
                    have z2 := (World.cell?_alloc_lt wr (.cells #[.string pm, .slice ua9 pn uc9] 39) ⟨b8, o8 + t * 2, none⟩ hb8p).trans m0p
                    have HB1 := hid (HBP.out.alloc HBP.out.size (.cells #[.string pm, .slice ua9 pn uc9] 39))
                    clear hyp hbx m0p
                    go_wp2_with fail
                    go_quiet (fail)
                    have HB2 := hid (below_drewN (n := nq) HB1.out)
                    go_wp2_with fail
                    go_roundg (gk - 1)
                    case rel => exact ⟨p + 1, by go_num, by omega, HB2⟩
                    case measure => omega
                  · obtain rfl : gk = 0 := by omega
                    obtain rfl : kk = p := by omega
                    have HF4 := hid (HBT.out.trans ((HDN.out.trans (HBP.out.mono HDN.out.size)).mono HBT.out.size))
                    go_wp2_with fail
                    go_roundg (gt - 1)
                    case rel => exact ⟨t + 1, by go_num, by omega, HF4⟩
                    case measure => omega
              · obtain rfl : gk = 0 := by omega
                obtain rfl : cl = t := by omega
                have HF3 := hid (HBX5.out.trans (HBT.out.mono HBX5.out.size))
                go_wp2_with fail
                go_roundg (go - 1)
                case rel => exact ⟨q + 1, by go_num, by omega, by rw [HNEXT.out], HF3⟩
                case measure => omega
          · have hkn : (kind != 3) = true := by simp [hk3]
            go_wp2_with fail
            go_roundg (go - 1)
            case rel => exact ⟨q + 1, by go_num, by omega, by rw [HNEXT.out], HBX5⟩
            case measure => omega
        · obtain rfl : gk = 0 := by omega
          obtain rfl : ll = q := by omega
          have HRN := hid (expl_Run ⟨1, nm, xs⟩ (.slice va L vc) (.slice la ll lc) l wo.heap.size wo HTV.out HFW.out HRTo.out ((HPO.out.keep (w' := wo) fun p (hp : p.block < w6.heap.size) => HB.out.cell (p := p) hp).more fun b (hb : b < w6.heap.size) => Nat.lt_of_lt_of_le hb HB.out.size) (Nat.le_refl _) (HT.out.below HBWo.out) HCAN.out (by rw [HLL.out]; omega))
          simp only at HRN
          rw [HRUNS.out] at HRN
          have x0 := HTBo.out.cell 0 rfl
          have x1 := HTBo.out.cell 1 rfl
          have x2 := HTBo.out.cell 2 rfl
          have hd4 : decide ((ll : Int) ≤ 4) = true := decide_eq_true (by omega)
          go_wp2_with fail
          clear x0 x1 x2
          with_reducible refine HRN.out.mono ?_
          rintro e w8 ⟨y8, rfl, hrd8, hb8⟩
          obtain ⟨y8a, y8c, rfl⟩ := rdCo_len hrd8
          have hrd9 := hrd8.more (S' := (· < w8.heap.size)) fun b hb => hb.2
          rw [HYE.out] at hrd9
          rw [HYE.out]
          obtain ⟨X9, hX9⟩ : ∃ X, X = w8.alloc (.cells #[.int .i64 1, .string nm, .slice y8a M y8c] 29) := ⟨_, rfl⟩
          have hbx := BoxN.new w8 #[.int .i64 1, .string nm, .slice y8a M y8c] 29
          have hsx := (Below.refl w8.heap.size w8).alloc (Nat.le_refl _) (.cells #[.int .i64 1, .string nm, .slice y8a M y8c] 29)
          rw [← hX9] at hbx hsx
          have hyb := (HYBo.out.below hb8 HYBo.out.lt).below hsx (by have := hb8.size; have := HYBo.out.lt; omega)
          have HSC := hid (ref_SameCols 1 2 nm nm2 ys (.slice y8a M y8c) (.slice v2a M v2c) X9.heap.size X9 (rdCo_next hrd9 hsx) (rdCo_next (rdCo_next HRYo.out hb8) hsx) (Nat.le_refl _))
          have HBW9 := hid (HBWo.out.trans ((hb8.trans (hsx.mono hb8.size)).mono HBWo.out.size))
          have x0 := hbx.cell 0 rfl
          have x1 := hbx.cell 1 rfl
          have x2 := hbx.cell 2 rfl
          have y0 := hyb.cell 0 rfl
          have y1 := hyb.cell 1 rfl
          have y2 := hyb.cell 2 rfl
          rw [hX9] at x0 x1 x2 y0 y1 y2
          clear hbx hsx hyb hrd8 hb8 hrd9 HRN
          go_wp2_with fail
          rw [← hX9]
          clear hX9 x0 x1 x2 y0 y1 y2
          with_reducible refine HSC.out.mono ?_
          rintro e w10 ⟨rfl, hb10⟩
          have HBW10 := hid (HBW9.out.trans (hb10.mono HBW9.out.size))
          clear hb10
          go_wp2_with fail
          with_reducible refine (HAW.out w10 HBW10.out).mono ?_
          rintro e w11 ⟨rfl, hb11⟩
          have HF2 := hid (HBW10.out.trans (hb11.mono HBW10.out.size))
          go_wp2
          go_ret
          exact ⟨rfl, HF2.out⟩
  · have HLI := hid (kit_Light a n c w hnm)
    rw [decide_eq_false hg] at HLI
    go_enter Tryz.func6, Tryz.ntmps6
    go_wp2_with fail
    with_reducible refine HLI.out.mono ?_
    rintro e w0 ⟨rfl, rfl⟩
    go_wp2_with fail
    with_reducible refine (HAW.out w (Below.refl _ _)).mono ?_
    rintro e w4 ⟨rfl, hb4⟩
    go_wp2
    go_ret
    exact ⟨rfl, hb4⟩
end Go.Proofs.YtfmlpaplnkohpaaGreatDoor

namespace Go.Proofs.YtfmlpaplnkohpaaGreatDoor
open Go.RowKit

/-- A slice of bytes that came in. -/
def RdU (w : World) (B : Nat) (a : Option Addr) (n c : Nat) : Prop :=
  n ≤ c ∧ c ≤ maxLen ∧ (0 < n → ∃ b o, a = some ⟨b, o, none⟩ ∧ b < B ∧ ∀ i, i < n → ∃ x : Nat, x < 256 ∧ w.cell? ⟨b, o + i, none⟩ = some (.int .u8 (x : Int)))

end Go.Proofs.YtfmlpaplnkohpaaGreatDoor

namespace Go.Proofs.YtfmlpaplnkohpaaGreatDoor
open Go.ChangeShapes Go.WideShapes Go.ChangeAt Go.RowKit Go.Lib
set_option linter.unusedVariables false

theorem kOwn : ownKnob Tryz.prog.godebug = none := by kernel_rfl
theorem kLaid : laidOutB Tryz.prog = true := by kernel_rfl
theorem kCells : Tryz.prog.cellsOf 5 = 1 := by kernel_rfl
theorem kCellsS : Tryz.prog.cellsOf 9 = 1 := by kernel_rfl

/-- the heap of the door's own run, with the pinned table in it -/
noncomputable def laidWorld (os : Os) : World :=
  let w0 := World.doorLaid Tryz.prog 400 os
  { w0 with heap := w0.heap.modify 0 fun
      | .cells _ t frozen => .cells (Lib.firstTab.map fun z => Value.int .u8 z).toArray t frozen
      | o => o }

theorem tabs_of {l : List (String × DataW Unit)} {W : World} (h : laidMet Tryz.prog l W) (h1 : ("unicode/utf8.first", Rows.laid_unicode_utf8_first) ∈ l) (h2 : ("unicode/utf8.acceptRanges", Rows.laid_unicode_utf8_acceptRanges) ∈ l) : Tabs W := by
  have e1 : (Rows.laid_unicode_utf8_first : DataW Unit) = Lib.firstData := Go.Pinned.utf8First_eq
  have e2 : (Rows.laid_unicode_utf8_acceptRanges : DataW Unit) = Lib.acceptData := by kernel_rfl
  have r1 := Lib.laidMet.reads h h1
  have r2 := Lib.laidMet.reads h h2
  rw [e1] at r1
  rw [e2] at r2
  exact utf8Tabs_of_readsT (U8Types.of196 Tryz.layValid) ⟨by kernel_rfl, by kernel_rfl, by kernel_rfl, by kernel_rfl, by kernel_rfl, by kernel_rfl, by kernel_rfl⟩ r1 r2

theorem rdU_of {W : World} {a : Addr} {len cap : Nat} {zs : List Int} (hl : len ≤ cap) (hm : cap ≤ maxLen) (hz : zs.length = cap) (hcell : ∀ i, i < zs.length → W.cell? (a.add i) = some (.int .u8 (zs.getD i 0))) (hw : ∀ n ∈ zs, (Lit.int .u8 n).wf = true) :
    RdU W W.heap.size (some a) len cap := by
  refine ⟨hl, hm, fun hp => ?_⟩
  obtain ⟨b, o, spot⟩ := a
  have hspot : spot = none := by simpa [Addr.add] using World.cell?_spot (hcell 0 (by omega))
  subst hspot
  have hlt : b < W.heap.size := by
    have h := hcell 0 (by omega)
    exact World.block_lt_of_cell? W (Addr.add ⟨b, o, none⟩ 0) h
  refine ⟨b, o, rfl, hlt, fun i hi => ?_⟩
  have hi' : i < zs.length := by omega
  have hb := bounds_u8 (hw (zs.getD i 0) (by simp [List.getD, hi']))
  refine ⟨(zs.getD i 0).toNat, by omega, ?_⟩
  rw [show (((zs.getD i 0).toNat : Nat) : Int) = zs.getD i 0 from by omega, ← Addr.add_lit]
  exact hcell i hi'
theorem rdS_open {W : World} {a : Addr} {len cap : Nat} {ss : List ByteArray} (hl : len ≤ cap) (hm : cap ≤ maxLen) (hs : ss.length = cap) (hcell : ∀ i, i < ss.length → W.cell? (a.add i) = some (.string (ss.getD i ByteArray.empty))) :
    RdS W W.heap.size (.slice (some a) len cap) (ss.take len) := by
  have hlen : (ss.take len).length = len := by rw [List.length_take]; omega
  refine ⟨some a, cap, by rw [hlen], by rw [hlen]; exact hl, hm, fun hp => ?_⟩
  rw [hlen] at hp
  obtain ⟨b, o, spot⟩ := a
  have hspot : spot = none := by simpa [Addr.add] using World.cell?_spot (hcell 0 (by omega))
  subst hspot
  refine ⟨b, o, rfl, World.block_lt_of_cell? W (Addr.add ⟨b, o, none⟩ 0) (hcell 0 (by omega)), fun i hi => ?_⟩
  rw [hlen] at hi
  rw [← Addr.add_lit, hcell i (by omega)]
  have hi' : i < ss.length := by omega
  simp [strF, List.getD, hi']
  rw [List.getElem?_take, if_pos hi]
  simp [hi']

end Go.Proofs.YtfmlpaplnkohpaaGreatDoor

namespace Go.Proofs.YtfmlpaplnkohpaaGreatDoor
open Go.ChangeShapes Go.RowKit Go.Lib

theorem tabIs_of_reads {P : Program} {W : World} {name : String} {k : IntKind} {zs : List Int} {g : Nat} {t e : TypeId} {n : Nat}
    (hg : P.globalNamed name = some g) (hty : (P.globals[g]?).map (·.type) = some t) (ht : P.underlying t = some (.array n e)) (he : P.underlying e = some (.int k)) (hce : P.cellsOf e = 1) (hct : P.cellsOf t = n)
    (h : VarReads P W name (tabData k zs)) : TabIs P W name k zs := by
  obtain ⟨g', t', cs, fuel, p, hg', ht', hvar, hd⟩ := h
  obtain rfl := Option.some.inj (hg.symm.trans hg')
  obtain rfl := Option.some.inj (hty.symm.trans ht')
  unfold TabIs
  rw [hvar, ← cells_of_tab ht he hce hct hd]
theorem pow_of {l : List (String × DataW Unit)} {W : World} (h : laidMet Tryz.prog l W) (h1 : ("internal/strconv.uint64pow10", Rows.laid_internal_strconv_uint64pow10) ∈ l) : Pow W := by
  have e1 : (Rows.laid_internal_strconv_uint64pow10 : DataW Unit) = tabData .u64 pow10Tab := by kernel_rfl
  have r1 := laidMet.reads h h1
  rw [e1] at r1
  exact tabIs_of_reads pow_named (t := 200) (e := 153) (n := 20) (by kernel_rfl) (by kernel_rfl) (by kernel_rfl) (by kernel_rfl) (by kernel_rfl) r1

theorem kCellsI : Tryz.prog.cellsOf 3 = 1 := by kernel_rfl
theorem rdI_of {W : World} {a : Addr} {len cap : Nat} {zs : List Int} (hl : len ≤ cap) (hm : cap ≤ maxLen) (hz : zs.length = cap) (hcell : ∀ i, i < zs.length → W.cell? (a.add i) = some (.int .i64 (zs.getD i 0))) (_hw : ∀ n ∈ zs, (Lit.int .i64 n).wf = true) :
    RdI W W.heap.size (some a) len cap := by
  refine ⟨hl, hm, fun hp => ?_⟩
  obtain ⟨b, o, spot⟩ := a
  have hspot : spot = none := by simpa [Addr.add] using World.cell?_spot (hcell 0 (by omega))
  subst hspot
  have hlt : b < W.heap.size := by
    have h := hcell 0 (by omega)
    exact World.block_lt_of_cell? W (Addr.add ⟨b, o, none⟩ 0) h
  refine ⟨b, o, rfl, hlt, fun i hi => ⟨zs.getD i 0, ?_⟩⟩
  rw [← Addr.add_lit]
  exact hcell i (by omega)

end Go.Proofs.YtfmlpaplnkohpaaGreatDoor
