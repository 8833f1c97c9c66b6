/- Contract of ref38.SameColumns at equal columns. Plain: a table of the kit's with numbers behind the names of its columns (ExplainLeads). Memory: columns whose names are renamed one after another; operations that grow (ExplainLeads). -/
import Derived.Test.YtfmlpaplnkohpaaGreatDoorExLdsbd
import Derived.Test.YtfmlpaplnkohpaaGreatDoorExLdsao
import Derived.Test.YtfmlpaplnkohpaaGreatDoorExLdsba
import Derived.Test.YtfmlpaplnkohpaaGreatDoorExLdsbg
import Derived.Test.YtfmlpaplnkohpaaGreatDoorExLdsbc
import Derived.Test.YtfmlpaplnkohpaaGreatDoorExLdsay
set_option linter.unusedVariables false
set_option linter.unusedSimpArgs false
namespace Go.Proofs.YtfmlpaplnkohpaaGreatDoor
open Go.RowKit

set_option maxRecDepth 100000 in
set_option maxHeartbeats 4000000 in
theorem ref_SameCols (ia ib : Int) (na nb : ByteArray) (xs : List Co) (u v : Value) (B : Nat) (w : World) (hu : RdCo w (· < B) u xs) (hv : RdCo w (· < B) v xs) (hB : B ≤ w.heap.size) :
    Calls Tryz.prog 22 #[.agg #[.int .i64 ia, .string na, u], .agg #[.int .i64 ib, .string nb, v]] w (Ret w (.bool true)) := by
  have HU := hid hu
  have HV := hid hv
  have hmx := rdCo_max hu
  obtain ⟨ua, uc, rfl⟩ := rdCo_len hu
  obtain ⟨va, vc, rfl⟩ := rdCo_len hv
  clear hu hv
  generalize hl : xs.length = L at *
  have HL := hid hl
  clear hl
  have HQ := hid ((BoxN.new w #[.int .i64 ia, .string na, .slice ua L uc] 29).alloc (.cells #[.int .i64 ib, .string nb, .slice va L vc] 29))
  have hr := BoxN.new (w.alloc (.cells #[.int .i64 ia, .string na, .slice ua L uc] 29)) #[.int .i64 ib, .string nb, .slice va L vc] 29
  rw [World.size_alloc] at hr
  have HR := hid hr
  have HB0 := hid (((Below.refl w.heap.size w).alloc (Nat.le_refl _) (.cells #[.int .i64 ia, .string na, .slice ua L uc] 29)).alloc (by simp) (.cells #[.int .i64 ib, .string nb, .slice va L vc] 29))
  have hz0 : ((w.alloc (.cells #[.int .i64 ia, .string na, .slice ua L uc] 29)).alloc (.cells #[.int .i64 ib, .string nb, .slice va L vc] 29)).heap.size = w.heap.size + 2 := by simp
  have q2 := HQ.out.cell 2 rfl
  have r2 := hr.cell 2 rfl
  clear hr
  go_enter Tryz.func22, Tryz.ntmps22
  generalize hLB : Code.loop _ = LB
  go_wp2_with fail
  generalize (w.alloc (.cells #[.int .i64 ia, .string na, .slice ua L uc] 29)).alloc (.cells #[.int .i64 ib, .string nb, .slice va L vc] 29) = W2 at *
  have hz0a := Nat.le_of_eq hz0
  have hz0b := Nat.le_of_eq hz0.symm
  subst hLB
  clear q2 r2 hz0
  go_loopg [20] L (fun N i wr => ∃ q : Nat, q + N = L ∧ i = .int .i64 (q : Int) ∧ Hid (Below W2.heap.size W2 wr))
  case atStart => exact ⟨0, by omega, rfl, hid (Below.refl _ _)⟩
  case round =>
    obtain ⟨q, hq, rfl, HB⟩ := hrel
    by_cases hp : 0 < gk
    · have hqL : q < L := by omega
      obtain ⟨wo, rfl⟩ : ∃ wo, wo = wr := ⟨wr, rfl⟩
      obtain ⟨go, rfl⟩ : ∃ go, go = gk := ⟨gk, rfl⟩
      have HBW := hid (HB0.out.trans (HB.out.mono (by omega)))
      have hws := HBW.out.size
      have hw2 := HB.out.size
      obtain ⟨b5, o5, c5, y5, e5, hb5, hk5, k0, k1⟩ := co_at (HU.out.keep (w' := wo) fun p (hp : p.block < B) => HBW.out.cell (p := p) (by omega)) (q := q) (by rw [HL.out]; exact hqL)
      obtain ⟨b6, o6, c6, y6, e6, hb6, hk6, m0, m1⟩ := co_at (HV.out.keep (w' := wo) fun p (hp : p.block < B) => HBW.out.cell (p := p) (by omega)) (q := q) (by rw [HL.out]; exact hqL)
      obtain ⟨rfl, -, rfl⟩ := Value.slice.inj e5
      obtain ⟨rfl, -, rfl⟩ := Value.slice.inj e6
      have hb5' : b5 < wo.heap.size := by have : b5 < B := hb5; omega
      have hb6' : b6 < wo.heap.size := by have : b6 < B := hb6; omega
      obtain ⟨d5, g5, rfl⟩ : ∃ a c, y5 = .slice a (xs.getD q Co.z).cells.length c := by
        obtain ⟨a, c, e, -⟩ := hk5
        exact ⟨a, c, e⟩
      obtain ⟨d6, g6, rfl⟩ : ∃ a c, y6 = .slice a (xs.getD q Co.z).cells.length c := by
        obtain ⟨a, c, e, -⟩ := hk6
        exact ⟨a, c, e⟩
      have HK := hid hk5
      have HK' := hid hk6
      have hmk := rdCl_max hk5
      clear e5 e6 hk5 hk6 hb5 hb6
      generalize xs.getD q Co.z = z at *
      obtain ⟨zn, zc⟩ := z
      simp only at k0 k1 m0 m1 HK HK' hmk
      generalize hzl : zc.length = nn at *
      have HNN := hid hzl
      clear hzl
      have hce : ∀ O : Obj, ∀ p : Addr, p.block < wo.heap.size → (wo.alloc O).cell? p = wo.cell? p := fun O p hp => World.cell?_alloc_lt _ _ _ hp
      have n0 := (hce (.cells #[.string zn, .slice d5 nn g5] 39) ⟨b6, o6 + q * 2, none⟩ hb6').trans m0
      have n1 := (hce (.cells #[.string zn, .slice d5 nn g5] 39) ⟨b6, o6 + q * 2 + 1, none⟩ hb6').trans m1
      have hrb := HR.out.below HB.out HR.out.lt
      have n2 := (hrb.alloc (.cells #[.string zn, .slice d5 nn g5] 39)).cell 2 rfl
      have HX := hid ((BoxN.new wo #[.string zn, .slice d5 nn g5] 39).alloc (.cells #[.string zn, .slice d6 nn g6] 39))
      have hy := BoxN.new (wo.alloc (.cells #[.string zn, .slice d5 nn g5] 39)) #[.string zn, .slice d6 nn g6] 39
      rw [World.size_alloc] at hy
      have HY := hid hy
      have HBN := hid (((Below.refl wo.heap.size wo).alloc (Nat.le_refl _) (.cells #[.string zn, .slice d5 nn g5] 39)).alloc (by simp) (.cells #[.string zn, .slice d6 nn g6] 39))
      have HB2 := hid (HB.out.trans (HBN.out.mono hw2))
      have x0 := HX.out.cell 0 rfl
      have x1 := HX.out.cell 1 rfl
      have y0 := hy.cell 0 rfl
      have y1 := hy.cell 1 rfl
      have ht : (zn.toList == zn.toList) = true := by simp
      clear hce hrb hy
      generalize hLC : Code.loop _ = LC
      go_wp2_with fail
      generalize (wo.alloc (.cells #[.string zn, .slice d5 nn g5] 39)).alloc (.cells #[.string zn, .slice d6 nn g6] 39) = W4 at *
      subst hLC
      clear k0 k1 m0 m1 n0 n1 n2 x0 x1 y0 y1
      go_loopg [47] nn (fun N i W => ∃ k : Nat, k + N = nn ∧ i = .int .i64 (k : Int) ∧ Hid (Below W4.heap.size W4 W))
      case atStart => exact ⟨0, by omega, rfl, hid (Below.refl _ _)⟩
      case round =>
        obtain ⟨k, hk, rfl, HBI⟩ := hrel
        by_cases hpk : 0 < gk
        · have hkn : k < nn := by omega
          have HB4 := hid (HBN.out.trans (HBI.out.mono HBN.out.size))
          obtain ⟨b7, o7, c7, e7, hb7, s0, s1⟩ := cl_at HK.out (k := k) (by rw [HNN.out]; exact hkn)
          obtain ⟨b8, o8, c8, e8, hb8, s2, s3⟩ := cl_at HK'.out (k := k) (by rw [HNN.out]; exact hkn)
          obtain ⟨rfl, -, rfl⟩ := Value.slice.inj e7
          obtain ⟨rfl, -, rfl⟩ := Value.slice.inj e8
          have hb7' : b7 < wo.heap.size := by have : b7 < B := hb7; omega
          have hb8' : b8 < wo.heap.size := by have : b8 < B := hb8; omega
          have t0 := (HB4.out.cell (p := ⟨b7, o7 + k * 2, none⟩) hb7').trans s0
          have t1 := (HB4.out.cell (p := ⟨b7, o7 + k * 2 + 1, none⟩) hb7').trans s1
          generalize zc.getD k Cl.z = cc at *
          obtain ⟨cn, ct⟩ := cc
          simp only at s2 s3 t0 t1
          have hb5z := HB4.out.alloc HB4.out.size (.cells #[.bool cn, .string ct] 42)
          have t2 := (hb5z.cell (p := ⟨b8, o8 + k * 2, none⟩) hb8').trans s2
          have t3 := (hb5z.cell (p := ⟨b8, o8 + k * 2 + 1, none⟩) hb8').trans s3
          have t4 := ((HY.out.below HBI.out HY.out.lt).alloc (.cells #[.bool cn, .string ct] 42)).cell 1 rfl
          have hbx := BoxN.new wr #[.bool cn, .string ct] 42
          have t5 := hbx.cell 0 rfl
          have t6 := hbx.cell 1 rfl
          have htt : (ct.toList == ct.toList) = true := by simp
          have hkk : (k : Int) < (nn : Int) := by omega
          have HBF := hid (HBI.out.alloc HBI.out.size (.cells #[.bool cn, .string ct] 42))
          clear e7 e8 s0 s1 s2 s3 hb5z hbx hb7 hb8
          go_wp2_with fail
          go_quiet (fail)
          have HB9 := hid (below_drewN (n := nq) HBF.out)
          go_wp2_with fail
          go_roundg (gk - 1)
          case rel => exact ⟨k + 1, by omega, by go_num, HB9⟩
          case measure => omega
        · obtain rfl : gk = 0 := by omega
          obtain rfl : nn = k := by omega
          have HF := hid (HB2.out.trans (HBI.out.mono HB2.out.size))
          go_wp2
          go_roundg (go - 1)
          case rel => exact ⟨q + 1, by omega, by go_num, HF⟩
          case measure => omega
    · obtain rfl : q = L := by omega
      go_wp2
      go_ret
      exact ⟨rfl, HB0.out.trans (HB.out.mono (by omega))⟩
end Go.Proofs.YtfmlpaplnkohpaaGreatDoor

namespace Go.Proofs.YtfmlpaplnkohpaaGreatDoor
open Go.RowKit

def dgL : List ByteArray := [⟨#[48]⟩, ⟨#[49]⟩, ⟨#[50]⟩, ⟨#[51]⟩]
def renC (x : Co) (i : Nat) : Co := ⟨x.name ++ dgL.getD i ⟨#[]⟩, x.cells⟩
def renL (xs : List Co) : List Co := (List.range xs.length).map fun i => renC (xs.getD i Co.z) i
theorem renL_len (xs : List Co) : (renL xs).length = xs.length := by simp [renL]
theorem renL_getD (xs : List Co) {i : Nat} (hi : i < xs.length) : (renL xs).getD i Co.z = renC (xs.getD i Co.z) i := by simp [renL, List.getD, hi]
theorem ren_text : ∀ s ∈ kcolNames, ∀ i, i < 3 → TextOk 1024 (s ++ dgL.getD i ⟨#[]⟩) := by unfold TextOk; decide +kernel
theorem ren_differ : ∀ s ∈ kcolNames, ∀ t ∈ kcolNames, ∀ i, i < 3 → ∀ j, j < 3 → i ≠ j → s ++ dgL.getD i ⟨#[]⟩ ≠ t ++ dgL.getD j ⟨#[]⟩ := by decide +kernel
theorem ren_nodup {t : Ta} (h : KTabOk t) : (namesL (renL t.cols)).Nodup := by
  obtain ⟨-, hl, n, -, hc⟩ := h
  refine List.pairwise_iff_getElem.2 fun i j hi hj hij => ?_
  simp only [namesL, renL, List.length_map, List.length_range] at hi hj
  simp only [namesL, renL, List.getElem_map, List.getElem_range]
  exact ren_differ _ (hc _ (getD_mem hi Co.z)).1 _ (hc _ (getD_mem hj Co.z)).1 i (by omega) j (by omega) (by omega)
theorem ren_cols {t : Ta} (h : KTabOk t) : ∃ n, n ≤ 6 ∧ ColsV (renL t.cols) n := by
  obtain ⟨-, hl, n, hn, hc⟩ := h
  refine ⟨n, hn, fun x hx => ?_⟩
  obtain ⟨i, hi, rfl⟩ := List.mem_map.1 hx
  have hi' := List.mem_range.1 hi
  have h1 := hc _ (getD_mem hi' Co.z)
  exact ⟨ren_text _ h1.1 i (by omega), h1.2.1, h1.2.2⟩

/-- what is found: no choice of columns, or one that is not all -/
def ProjW (n : Nat) (p : List Po) (m : Nat) : Prop := (p = [] ∧ m = n) ∨ ∃ ks : List Nat, p = [opProj ks] ∧ (∀ k ∈ ks, k < n) ∧ ks.length ≤ 64 ∧ m = ks.length ∧ 0 < ks.length ∧ ks.length < n
theorem ends_mem {m : Nat} (hm : 0 < m) {e : List Po} (he : e = [] ∨ e = [opDist]) : e ∈ endsL m ∧ e ++ [opSort 0] ∈ endsL m := by
  have h1 : ([] : List Po) ∈ sortsL m := List.mem_cons_self
  have h2 : [opSort 0] ∈ sortsL m := List.mem_cons_of_mem _ (List.mem_map.2 ⟨0, List.mem_range.2 hm, rfl⟩)
  rcases he with rfl | rfl
  · exact ⟨List.mem_append_left _ h1, List.mem_append_left _ h2⟩
  · exact ⟨List.mem_append_right _ (List.mem_map.2 ⟨_, h1, rfl⟩), List.mem_append_right _ (List.mem_map.2 ⟨_, h2, rfl⟩)⟩
theorem leads_all {a : List Co} {n m : Nat} {f p e : List Po} (hv : ColsV a n) (hn : (namesL a).Nodup) (hf : f ∈ filtersL a) (hp : ProjW a.length p m) (he : e ∈ endsL m) :
    canRun a (f ++ p ++ e) = true ∧ (f ++ p ++ e).length ≤ 4 ∧ ∃ l, findL a (runL a (f ++ p ++ e)) = some l ∧ l.length ≤ (f ++ p ++ e).length ∧ runL a l = runL a (f ++ p ++ e) := by
  have h1 := filt_short hf
  have h2 := ends_short he
  have hfl : (runL a f).length = a.length := names_len (names_run fun o ho => by have := filters_kind hf o ho; omega)
  rcases hp with ⟨rfl, rfl⟩ | ⟨ks, rfl, hk, hk64, rfl, hlt⟩
  · have h3 : (f ++ [] ++ e).length ≤ 4 := by simp only [List.length_append, List.length_nil]; omega
    rw [List.append_nil] at h3 ⊢
    refine ⟨?_, h3, leads_none hn hf he h3⟩
    rw [canRun_append, can_filters hv hf, can_ends (by rw [hfl]; exact he)]
    rfl
  · have h3 : (f ++ [opProj ks] ++ e).length ≤ 4 := by simp only [List.length_append, List.length_singleton]; omega
    refine ⟨?_, h3, leads_some hn hf hk (fun h => by omega) he h3⟩
    have e1 : (runL a (f ++ [opProj ks])).length = ks.length := by
      rw [runL_append]
      show (projL (runL a f) _).length = _
      simp [projL, opProj]
    have e3 := can_ends (xs := runL a (f ++ [opProj ks])) (e := e) (by rw [e1]; exact he)
    have e2 : canL (runL a f).length (opProj ks) = true := can_proj (fun k h => by rw [hfl]; exact hk k h) hk64
    rw [canRun_append, canRun_append, can_filters hv hf, e3]
    simp [canRun, e2]
end Go.Proofs.YtfmlpaplnkohpaaGreatDoor

namespace Go.Proofs.YtfmlpaplnkohpaaGreatDoor
open Go.RowKit

theorem flat_set2 (n : Nat) (f f' : Nat → Nat → Value) (i j : Nat) (hi : i < n) (hj : j < 2) (u : Value) (h1 : f' i j = u) (hf : ∀ i' j', (i' ≠ i ∨ j' ≠ j) → j' < 2 → f' i' j' = f i' j') : (flatK 2 n f).set (i * 2 + j) u = flatK 2 n f' := by
  apply List.ext_getElem?
  intro m
  by_cases hm : m < n * 2
  · have e : m = m / 2 * 2 + m % 2 := by omega
    have hk : m / 2 < n := by omega
    have a1 := flatK_at (k := 2) (f := f') hk (Nat.mod_lt m (by omega))
    have a2 := flatK_at (k := 2) (f := f) hk (Nat.mod_lt m (by omega))
    rw [← e] at a1 a2
    rw [a1, List.getElem?_set]
    by_cases hmi : i * 2 + j = m
    · have e2 : m / 2 = i := by omega
      have e3 : m % 2 = j := by omega
      rw [if_pos hmi, if_pos (by rw [flatK_len]; omega), e2, e3, h1]
    · rw [if_neg hmi, a2, hf _ _ (by omega) (Nat.mod_lt m (by omega))]
  · rw [List.getElem?_eq_none (by rw [List.length_set, flatK_len]; omega), List.getElem?_eq_none (by rw [flatK_len]; omega)]

/-- the first q columns renamed -/
def renTo (xs : List Co) (q : Nat) : List Co := (List.range xs.length).map fun i => if i < q then renC (xs.getD i Co.z) i else xs.getD i Co.z
theorem renTo_len (xs : List Co) (q : Nat) : (renTo xs q).length = xs.length := by simp [renTo]
theorem renTo_getD (xs : List Co) (q : Nat) {i : Nat} (hi : i < xs.length) : (renTo xs q).getD i Co.z = if i < q then renC (xs.getD i Co.z) i else xs.getD i Co.z := by simp [renTo, List.getD, hi]
theorem renTo_zero (xs : List Co) : renTo xs 0 = xs := by
  refine List.ext_getElem (renTo_len xs 0) fun i h1 h2 => ?_
  simp [renTo, List.getD, h2]
theorem renTo_all (xs : List Co) : renTo xs xs.length = renL xs := by
  unfold renTo renL
  refine List.map_congr_left fun i hi => ?_
  rw [if_pos (List.mem_range.1 hi)]
theorem ren_put {W : World} {base : Nat} {e : TypeId} {g L cap q : Nat} {xs : List Co} (h : CoSt W base e (.slice (some ⟨g, 0, none⟩) L cap) (renTo xs q)) (hL : xs.length = L) (hq : q < L) :
    CoSt (W.setCell ⟨g, q * 2, none⟩ (.string (renC (xs.getD q Co.z) q).name)) base e (.slice (some ⟨g, 0, none⟩) L cap) (renTo xs (q + 1)) := by
  obtain ⟨cv, hrow, hlow, hkids⟩ := h
  rw [renTo_len, hL] at hrow
  have hc : ∀ p : Addr, p.block ≠ g → (W.setCell ⟨g, q * 2, none⟩ (.string (renC (xs.getD q Co.z) q).name)).cell? p = W.cell? p := fun p hp => World.cell?_setCell_other _ _ _ _ (by intro e; subst e; exact hp rfl)
  refine ⟨cv, ?_, by simpa using hlow, fun i hi => ?_⟩
  · rw [renTo_len, hL]
    have h1 := (hrow.stored (q * 2) (.string (renC (xs.getD q Co.z) q).name)).1
    rw [show q * 2 = q * 2 + 0 from rfl, flat_set2 L (coF (renTo xs q) cv) (coF (renTo xs (q + 1)) cv) q 0 hq (by omega) (.string (renC (xs.getD q Co.z) q).name) ?_ ?_] at h1
    · exact h1
    · simp only [coF, two]
      rw [renTo_getD _ _ (by omega), if_pos (by omega)]
    · intro i' j' hne hj
      rcases (show j' = 0 ∨ j' = 1 by omega) with rfl | rfl
      · simp only [coF, two]
        by_cases hi' : i' < xs.length
        · rw [renTo_getD _ _ hi', renTo_getD _ _ hi']
          by_cases h2 : i' < q
          · rw [if_pos (by omega), if_pos h2]
          · rw [if_neg (by omega), if_neg h2]
        · simp [List.getD, renTo, hi']
      · rfl
  · rw [renTo_len] at hi
    have hk := hkids i (by rw [renTo_len]; exact hi)
    have hcells : ((renTo xs (q + 1)).getD i Co.z).cells = ((renTo xs q).getD i Co.z).cells := by
      rw [renTo_getD _ _ hi, renTo_getD _ _ hi]
      split <;> split <;> rfl
    rw [hcells]
    refine (hk.keep fun p hp => hc p fun e => hp.2.2 ?_).more fun b hb => ⟨hb.1, by simpa using hb.2.1, hb.2.2⟩
    rw [e]
    rfl

theorem ks_flat (ks : List Nat) : ks.map (fun (k : Nat) => Value.int .i64 (k : Int)) = flatK 1 ks.length (zF (ks.map fun (k : Nat) => (k : Int))) := by
  apply List.ext_getElem?
  intro m
  by_cases hm : m < ks.length
  · have h := flatK_at (k := 1) (f := zF (ks.map fun (k : Nat) => (k : Int))) hm (show 0 < 1 by omega)
    simp only [Nat.mul_one, Nat.add_zero] at h
    rw [h]
    simp [zF, List.getD, hm]
  · rw [List.getElem?_eq_none (by simp; omega), List.getElem?_eq_none (by rw [flatK_len]; omega)]

section
variable {w w' : World} {base : Nat} {e : TypeId} {v : Value} {os : List Po}
theorem PoSt.start (hb : base ≤ w.heap.size) : PoSt w base e (.slice none 0 0) [] := ⟨fun _ => .bool false, Nest.start hb⟩
theorem PoSt.later (h : PoSt w base e v os) (hb : Below w.heap.size w w') (h0 : 0 < base) : PoSt w' base e v os := by
  obtain ⟨vv, h⟩ := h
  exact ⟨vv, h.below (fun i _ => keeps_ks _ _) hb (Nat.le_refl _) h0⟩
theorem PoSt.roll (h : PoSt w base e v os) {B g : Nat} (hr : Roll B g w w') (hB : w.heap.size ≤ B) (hg : g < base) : PoSt w' base e v os := by
  obtain ⟨vv, h⟩ := h
  exact ⟨vv, h.roll (fun i _ => keeps_ks _ _) hr hB hg⟩
theorem PoSt.owns (h : PoSt w base e v os) : ∃ L, w.ownsRow base e 4 v os.length L := by
  obtain ⟨vv, h⟩ := h
  exact ⟨_, h.row⟩
theorem PoSt.low (h : PoSt w base e v os) : base ≤ w.heap.size := by
  obtain ⟨vv, h⟩ := h
  exact h.low
theorem PoSt.read (h : PoSt w base e v os) : RdPo w (fun b => base ≤ b ∧ b < w.heap.size) v os := by
  obtain ⟨vv, h⟩ := h
  exact ⟨vv, (inK_of_owns h.row).more fun b hb => h.row.lt b hb, fun i hi => (h.kids i hi).more fun b hb => ⟨hb.1, hb.2.1⟩⟩
theorem PoSt.push (h : PoSt w base e v os) {L : List Value} (hL : w.ownsRow base e 4 v os.length L) {o : Po} {u : Value} {g n cap : Nat} (hn : n = os.length + 1)
    (hown : w'.ownsRow base e 4 (.slice (some ⟨g, 0, none⟩) n cap) n (L ++ [.int .i64 o.kind, .int .i64 o.col, .string o.text, u])) (hg : w.grownBy w' v.ownBlock) (hat : v.ownBlock = some g ∨ g = w.heap.size)
    (hnew : RdKs w (Own w base v) u o.cols) : PoSt w' base e (.slice (some ⟨g, 0, none⟩) n cap) (os ++ [o]) := by
  obtain ⟨uv, h⟩ := h
  subst hn
  have hLL : L = flatK 4 os.length (poF os uv) := own_same hL h.row
  subst hLL
  refine ⟨fun i => if i = os.length then u else uv i, ?_⟩
  rw [List.length_append, List.length_singleton]
  refine h.push (fun i _ => keeps_ks _ _) hown hg hat ?_ (keeps_ks _ _) ?_ ?_ ?_
  · simpa [List.getD] using hnew
  · intro i hi j hj
    have h1 : i ≠ os.length := by omega
    have h2 : (os ++ [o]).getD i Po.z = os.getD i Po.z := by simp [List.getD, List.getElem?_append_left hi]
    simp only [poF, if_neg h1, h2]
  · simp [poF, poC, List.range_succ, List.getD]
  · intro i hi
    have h1 : i ≠ os.length := by omega
    simp [List.getD, List.getElem?_append_left hi, h1]
end
end Go.Proofs.YtfmlpaplnkohpaaGreatDoor
