/- DERIVED: THE SHELF's CONTRACTS AT THIS DUMP, IN PLAIN WORDS (tools/lay-plain.mjs out of 'YtfmlpaplnkohpaaGreatDoorShOL.lean', which tools/lay-shelf.mjs wrote): THE SAME DECLARATIONS UNDER THE SAME NAMES: 'import', 'namespace', 'open', 'def', 'theorem' AND NOTHING ELSE: no command of the shelf's: FOR A HAND-IN. Each laying: the table of numbers ('.._ren') and one theorem, a field a fact of the dump's own or the kernel's comparison; each contract: ONE APPLICATION. Contracts of ref38.Same, ref03.SameCells and ref03.Same at equal arguments. Contracts of slices.Index and slices.Contains at numbers, and of lineage.Ancestors. -/
import Derived.Shelf.SortM.Plain
import Derived.Shelf.SortM.SortNone
import Derived.Ground.SlgmProg
import Derived.Test.YtfmlpaplnkohpaaGreatDoorProg
import Derived.Test.YtfmlpaplnkohpaaGreatDoorLnRtbg
import Derived.Deep.Cut
import Derived.Test.YtfmlpaplnkohpaaGreatDoorLnRtbi
set_option linter.unusedVariables false
set_option linter.unusedSimpArgs false
namespace Go.Proofs
open Go.Shelf
def Tryz.sortInt_ren : Go.Shelf.Ren := ⟨fun | 5 => 59 | 8 => 93 | 7 => 98 | 19 => 131 | 20 => 132 | 10 => 137 | 11 => 138 | 12 => 139 | 13 => 140 | 14 => 141 | 15 => 142 | 16 => 143 | 17 => 144 | 18 => 145 | 30 => 169 | 31 => 163 | 32 => 164 | 33 => 170 | 34 => 171 | 35 => 94 | 40 => 182 | n => n, fun | 23 => 22 | 25 => 3 | 3 => 3 | 32 => 122 | 22 => 22 | 0 => 0 | 44 => 151 | 46 => 153 | 4 => 4 | 36 => 144 | 35 => 143 | 41 => 148 | 5 => 5 | 9 => 9 | 53 => 173 | 57 => 177 | 63 => 195 | 64 => 196 | n => n, fun | n => n⟩
theorem Tryz.sortInt : Go.Proofs.SlLaysM.n5 Tryz.prog Tryz.sortInt_ren := {
  mixed := by kernel_rfl
  f5 := ⟨Tryz.f59.name, by decide, Tryz.func59.trans (congrArg some (by kernel_rfl))⟩
  f7 := ⟨Tryz.f98.name, by decide, Tryz.func98.trans (congrArg some (by kernel_rfl))⟩
  f8 := Tryz.func93.trans (congrArg some (by kernel_rfl))
  f10 := ⟨Tryz.f137.name, by decide, Tryz.func137.trans (congrArg some (by kernel_rfl))⟩
  f11 := ⟨Tryz.f138.name, by decide, Tryz.func138.trans (congrArg some (by kernel_rfl))⟩
  f12 := ⟨Tryz.f139.name, by decide, Tryz.func139.trans (congrArg some (by kernel_rfl))⟩
  f13 := ⟨Tryz.f140.name, by decide, Tryz.func140.trans (congrArg some (by kernel_rfl))⟩
  f14 := ⟨Tryz.f141.name, by decide, Tryz.func141.trans (congrArg some (by kernel_rfl))⟩
  f15 := ⟨Tryz.f142.name, by decide, Tryz.func142.trans (congrArg some (by kernel_rfl))⟩
  f16 := ⟨Tryz.f143.name, by decide, Tryz.func143.trans (congrArg some (by kernel_rfl))⟩
  f17 := ⟨Tryz.f144.name, by decide, Tryz.func144.trans (congrArg some (by kernel_rfl))⟩
  f18 := ⟨Tryz.f145.name, by decide, Tryz.func145.trans (congrArg some (by kernel_rfl))⟩
  f19 := Tryz.func131.trans (congrArg some (by kernel_rfl))
  f20 := Tryz.func132.trans (congrArg some (by kernel_rfl))
  f30 := ⟨Tryz.f169.name, by decide, Tryz.func169.trans (congrArg some (by kernel_rfl))⟩
  f31 := Tryz.func163.trans (congrArg some (by kernel_rfl))
  f32 := Tryz.func164.trans (congrArg some (by kernel_rfl))
  f33 := ⟨Tryz.f170.name, by decide, Tryz.func170.trans (congrArg some (by kernel_rfl))⟩
  f34 := ⟨Tryz.f171.name, by decide, Tryz.func171.trans (congrArg some (by kernel_rfl))⟩
  f35 := ⟨Tryz.f94.name, by decide, Tryz.func94.trans (congrArg some (by kernel_rfl))⟩
  f40 := ⟨Tryz.f182.name, by decide, Tryz.func182.trans (congrArg some (by kernel_rfl))⟩
  t0 := Tryz.underlying0
  a0 := Tryz.isAgg0
  z0 := Tryz.sizeOf0
  v0 := Tryz.zeroValue0
  t3 := Tryz.underlying3
  a3 := Tryz.isAgg3
  z3 := Tryz.sizeOf3
  v3 := Tryz.zeroValue3
  t4 := Tryz.underlying4
  a4 := Tryz.isAgg4
  z4 := Tryz.sizeOf4
  v4 := Tryz.zeroValue4
  t5 := Tryz.underlying5
  a5 := Tryz.isAgg5
  z5 := Tryz.sizeOf5
  v5 := Tryz.zeroValue5
  t9 := Tryz.underlying9
  a9 := Tryz.isAgg9
  z9 := Tryz.sizeOf9
  v9 := Tryz.zeroValue9
  t22 := Tryz.underlying22
  a22 := Tryz.isAgg22
  z22 := Tryz.sizeOf22
  v22 := Tryz.zeroValue22
  t23 := Tryz.underlying22
  a23 := Tryz.isAgg22
  z23 := Tryz.sizeOf22
  v23 := Tryz.zeroValue22
  t25 := Tryz.underlying3
  a25 := Tryz.isAgg3
  z25 := Tryz.sizeOf3
  v25 := Tryz.zeroValue3
  t32 := Tryz.underlying122
  a32 := Tryz.isAgg122
  z32 := Tryz.sizeOf122
  v32 := Tryz.zeroValue122
  t35 := Tryz.underlying143
  a35 := Tryz.isAgg143
  z35 := Tryz.sizeOf143
  v35 := Tryz.zeroValue143
  t36 := Tryz.underlying144
  a36 := Tryz.isAgg144
  z36 := Tryz.sizeOf144
  v36 := Tryz.zeroValue144
  t41 := Tryz.underlying148
  a41 := Tryz.isAgg148
  z41 := Tryz.sizeOf148
  v41 := Tryz.zeroValue148
  t44 := Tryz.underlying151
  a44 := Tryz.isAgg151
  z44 := Tryz.sizeOf151
  v44 := Tryz.zeroValue151
  t46 := Tryz.underlying153
  a46 := Tryz.isAgg153
  z46 := Tryz.sizeOf153
  v46 := Tryz.zeroValue153
  t53 := Tryz.underlying173
  a53 := Tryz.isAgg173
  z53 := Tryz.sizeOf173
  v53 := Tryz.zeroValue173
  t57 := Tryz.underlying177
  a57 := Tryz.isAgg177
  z57 := Tryz.sizeOf177
  v57 := Tryz.zeroValue177
  t63 := Tryz.underlying195
  a63 := Tryz.isAgg195
  z63 := Tryz.sizeOf195
  v63 := Tryz.zeroValue195
  t64 := Tryz.underlying196
  a64 := Tryz.isAgg196
  z64 := Tryz.sizeOf196
  v64 := Tryz.zeroValue196 }
end Go.Proofs

namespace Go.Proofs.YtfmlpaplnkohpaaGreatDoor
open Go.RowKit

theorem rdPo_max {w : World} {S : Nat → Prop} {v : Value} {os : List Po} (h : RdPo w S v os) : os.length ≤ 9223372036854775807 := by
  obtain ⟨uv, ⟨a, c, -, h1, h2, -⟩, -⟩ := h
  unfold maxLen at h2
  omega
theorem rdKs_max {w : World} {S : Nat → Prop} {v : Value} {os : List Int} (h : RdKs w S v os) : os.length ≤ 9223372036854775807 := by
  obtain ⟨a, c, -, h1, h2, -⟩ := h
  unfold maxLen at h2
  omega
theorem ks_at {w : World} {S : Nat → Prop} {v : Value} {ks : List Int} (h : RdKs w S v ks) {k : Nat} (hk : k < ks.length) : ∃ b o c, v = .slice (some ⟨b, o, none⟩) ks.length c ∧ S b ∧ w.cell? ⟨b, o + k, none⟩ = some (.int .i64 (ks.getD k 0)) := by
  obtain ⟨a, c, e, -, -, hr⟩ := h
  obtain ⟨b, o, rfl, hb, hc⟩ := hr (by omega)
  refine ⟨b, o, c, e, hb, ?_⟩
  have := hc k hk 0 (by omega)
  simpa [zF] using this

set_option maxRecDepth 100000 in
set_option maxHeartbeats 4000000 in
theorem ref_SameOps (u v : Value) (os : List Po) (B : Nat) (w : World) (hu : RdPo w (· < B) u os) (hv : RdPo w (· < B) v os) (hB : B ≤ w.heap.size) :
    Calls Tryz.prog 18 #[u, v] w (Ret w (.bool true)) := by
  have HU := hid hu
  have HV := hid hv
  obtain ⟨ua, uc, rfl⟩ := rdPo_len hu
  obtain ⟨va, vc, rfl⟩ := rdPo_len hv
  have hmx := rdPo_max hu
  clear hu hv
  generalize hl : os.length = L at *
  have HL := hid hl
  clear hl
  go_enter Tryz.func18, Tryz.ntmps18
  go_wp2_with fail
  go_loopg [17] L (fun N i wr => ∃ q : Nat, q + N = L ∧ i = .int .i64 (q : Int) ∧ Hid (Below w.heap.size w wr))
  case atStart => exact ⟨0, by omega, rfl, hid (Below.refl _ _)⟩
  case round =>
    obtain ⟨q, hq, rfl, HB⟩ := hrel
    by_cases hp : 0 < gk
    · have hqL : q < L := by omega
      obtain ⟨go, rfl⟩ : ∃ go, go = gk := ⟨gk, rfl⟩
      have hws := HB.out.size
      obtain ⟨b, o, c, uv, hl, hb, hks, -, -, k0, k1, k2, k3⟩ := rdPo_at (HU.out.keep (w' := wr) fun p (hp : p.block < B) => HB.out.cell (p := p) (by omega)) (q := q) (by rw [HL.out]; exact hqL)
      obtain ⟨b', o', c', uv', hl', hb', hks', -, -, m0, m1, m2, m3⟩ := rdPo_at (HV.out.keep (w' := wr) fun p (hp : p.block < B) => HB.out.cell (p := p) (by omega)) (q := q) (by rw [HL.out]; exact hqL)
      obtain ⟨rfl, -, rfl⟩ := Value.slice.inj hl
      obtain ⟨rfl, -, rfl⟩ := Value.slice.inj hl'
      have hbB : b < wr.heap.size := by have : b < B := hb; omega
      have hbB' : b' < wr.heap.size := by have : b' < B := hb'; omega
      have HK := hid hks
      have HK' := hid hks'
      obtain ⟨oa, oc, rfl⟩ : ∃ a c, uv = .slice a (os.getD q Po.z).cols.length c := by
        obtain ⟨a, c, e, -⟩ := hks
        exact ⟨a, c, e⟩
      obtain ⟨oa', oc', rfl⟩ : ∃ a c, uv' = .slice a (os.getD q Po.z).cols.length c := by
        obtain ⟨a, c, e, -⟩ := hks'
        exact ⟨a, c, e⟩
      have hmk := rdKs_max hks
      clear hl hl' hb hb' hks hks'
      generalize os.getD q Po.z = P at *
      obtain ⟨kind, col, text, cols⟩ := P
      simp only at k0 k1 k2 k3 m0 m1 m2 m3 HK HK' hmk
      generalize hnn : cols.length = nn at *
      have HNN := hid hnn
      clear hnn
      have hce : ∀ O : Obj, ∀ p : Addr, p.block < wr.heap.size → (wr.alloc O).cell? p = wr.cell? p := fun O p hp => World.cell?_alloc_lt _ _ _ hp
      have n0 := (hce (.cells #[.int .i64 kind, .int .i64 col, .string text, .slice oa nn oc] 47) ⟨b', o' + q * 4, none⟩ hbB').trans m0
      have n1 := (hce (.cells #[.int .i64 kind, .int .i64 col, .string text, .slice oa nn oc] 47) ⟨b', o' + q * 4 + 1, none⟩ hbB').trans m1
      have n2 := (hce (.cells #[.int .i64 kind, .int .i64 col, .string text, .slice oa nn oc] 47) ⟨b', o' + q * 4 + 2, none⟩ hbB').trans m2
      have n3 := (hce (.cells #[.int .i64 kind, .int .i64 col, .string text, .slice oa nn oc] 47) ⟨b', o' + q * 4 + 3, none⟩ hbB').trans m3
      have HQ := hid ((BoxN.new wr #[.int .i64 kind, .int .i64 col, .string text, .slice oa nn oc] 47).alloc (.cells #[.int .i64 kind, .int .i64 col, .string text, .slice oa' nn oc'] 47))
      have hr := BoxN.new (wr.alloc (.cells #[.int .i64 kind, .int .i64 col, .string text, .slice oa nn oc] 47)) #[.int .i64 kind, .int .i64 col, .string text, .slice oa' nn oc'] 47
      rw [World.size_alloc] at hr
      have HR := hid hr
      have HB2 := hid ((HB.out.alloc hws (.cells #[.int .i64 kind, .int .i64 col, .string text, .slice oa nn oc] 47)).alloc (by simp; omega) (.cells #[.int .i64 kind, .int .i64 col, .string text, .slice oa' nn oc'] 47))
      have HBN := hid (((Below.refl wr.heap.size wr).alloc (Nat.le_refl _) (.cells #[.int .i64 kind, .int .i64 col, .string text, .slice oa nn oc] 47)).alloc (by simp) (.cells #[.int .i64 kind, .int .i64 col, .string text, .slice oa' nn oc'] 47))
      have q0 := HQ.out.cell 0 rfl
      have q1 := HQ.out.cell 1 rfl
      have q2 := HQ.out.cell 2 rfl
      have q3 := HQ.out.cell 3 rfl
      have r0 := hr.cell 0 rfl
      have r1 := hr.cell 1 rfl
      have r2 := hr.cell 2 rfl
      have r3 := hr.cell 3 rfl
      have ht : (text.toList == text.toList) = true := by simp
      clear hce hr
      generalize hLB : Code.loop _ = LB
      go_wp2_with fail
      generalize (wr.alloc (.cells #[.int .i64 kind, .int .i64 col, .string text, .slice oa nn oc] 47)).alloc (.cells #[.int .i64 kind, .int .i64 col, .string text, .slice oa' nn oc'] 47) = W2 at *
      subst hLB
      clear q0 q1 q2 q3 r0 r1 r2 r3 k0 k1 k2 k3 m0 m1 m2 m3 n0 n1 n2 n3
      go_loopg [57] nn (fun N i W => ∃ k : Nat, k + N = nn ∧ i = .int .i64 (k : Int) ∧ Hid (Below W2.heap.size W2 W))
      case atStart => exact ⟨0, by omega, rfl, hid (Below.refl _ _)⟩
      case round =>
        obtain ⟨k, hk, rfl, HBI⟩ := hrel
        by_cases hpk : 0 < gk
        · have hkn : k < nn := by omega
          have hn2 := HBN.out.size
          obtain ⟨b5, o5, c5, e5, hb5, h5⟩ := ks_at HK.out (k := k) (by rw [HNN.out]; exact hkn)
          obtain ⟨b6, o6, c6, e6, hb6, h6⟩ := ks_at HK'.out (k := k) (by rw [HNN.out]; exact hkn)
          obtain ⟨rfl, -, rfl⟩ := Value.slice.inj e5
          obtain ⟨rfl, -, rfl⟩ := Value.slice.inj e6
          have hb5' : b5 < B := hb5
          have hb6' : b6 < B := hb6
          have s0 := (HBI.out.cell (p := ⟨b5, o5 + k, none⟩) (by show b5 < _; omega)).trans ((HBN.out.cell (p := ⟨b5, o5 + k, none⟩) (by show b5 < _; omega)).trans h5)
          have s1 := (HBI.out.cell (p := ⟨b6, o6 + k, none⟩) (by show b6 < _; omega)).trans ((HBN.out.cell (p := ⟨b6, o6 + k, none⟩) (by show b6 < _; omega)).trans h6)
          have s2 := (HR.out.below HBI.out HR.out.lt).cell 3 rfl
          clear e5 e6 h5 h6
          generalize cols.getD k 0 = z at *
          go_wp2
          go_roundg (gk - 1)
          case rel => exact ⟨k + 1, by omega, by go_num, HBI⟩
          case measure => omega
        · obtain rfl : gk = 0 := by omega
          obtain rfl : nn = k := by omega
          have HF := hid (HB2.out.trans (HBI.out.mono HB2.out.size))
          go_wp2
          go_roundg (go - 1)
          case rel => exact ⟨q + 1, by omega, by go_num, HF⟩
          case measure => omega
    · obtain rfl : q = L := by omega
      go_wp2
      go_ret
      exact ⟨rfl, HB.out⟩
end Go.Proofs.YtfmlpaplnkohpaaGreatDoor

namespace Go.Proofs.YtfmlpaplnkohpaaGreatDoor
open Go.RowKit

set_option maxRecDepth 100000 in
set_option maxHeartbeats 1000000 in
theorem lib_IndexZ (v : Value) (ks : List Int) (x : Int) (B : Nat) (w : World) (hv : RdKs w (· < B) v ks) (hB : B ≤ w.heap.size) :
    Calls Tryz.prog 99 #[v, .int .i64 x] w (fun e w' => ∃ r : Int, e = .returned (.int .i64 r) ∧ (x ∈ ks ↔ 0 ≤ r) ∧ Below w.heap.size w w') := by
  have hmx := rdKs_max hv
  have HV := hid hv
  obtain ⟨va, vc, rfl, -⟩ := hv
  have HMEM : Hid (∀ j, j < ks.length → ks.getD j 0 ∈ ks) := hid (fun j h => getD_mem h 0)
  have HALL : Hid ((∀ j, j < ks.length → ks.getD j 0 ≠ x) → x ∉ ks) := hid (fun h hx => by
    obtain ⟨j, hj, e⟩ := List.getElem_of_mem hx
    exact h j hj (by simp [List.getD, hj, e]))
  generalize hl : ks.length = L at *
  have HL := hid hl
  clear hl
  go_enter Tryz.func99, Tryz.ntmps99
  go_wp2_with fail
  go_loopg [8] L (fun N u wr => ∃ q : Nat, q + N = L ∧ u = .int .i64 (q : Int) ∧ Hid (Below w.heap.size w wr) ∧ Hid (∀ j, j < q → ks.getD j 0 ≠ x))
  case atStart => exact ⟨0, by omega, rfl, hid (Below.refl _ _), hid (fun j h => absurd h (by omega))⟩
  case round =>
    obtain ⟨q, hq, rfl, HB, HNE⟩ := hrel
    by_cases hp : 0 < gk
    · have hqL : q < L := by omega
      obtain ⟨b, o, c3, e3, hb, h5⟩ := ks_at (HV.out.keep (w' := wr) fun p (hp : p.block < B) => HB.out.cell (p := p) (by omega)) (k := q) (by rw [HL.out]; exact hqL)
      rw [HL.out] at e3
      obtain ⟨rfl, -, rfl⟩ := Value.slice.inj e3
      have hqi : (q : Int) < (L : Int) := by omega
      have HQ := hid (HMEM.out q hqL)
      clear e3 hb
      by_cases hd : ks.getD q 0 = x
      · rw [hd] at h5 HQ
        have hxx : (x == x) = true := by simp
        clear hd
        go_wp2
        go_ret
        exact ⟨(q : Int), rfl, ⟨fun _ => by omega, fun _ => HQ.out⟩, HB.out⟩
      · have HD := hid hd
        have HN2 : Hid (∀ j, j < q + 1 → ks.getD j 0 ≠ x) := hid (fun j hj => by
          rcases Nat.lt_or_ge j q with h1 | h1
          · exact HNE.out j h1
          · obtain rfl : j = q := by omega
            exact hd)
        clear hd HQ
        generalize ks.getD q 0 = y at *
        have hxx : (x == y) = false := by
          have := HD.out
          simp
          omega
        have hxy : ¬ x = y := fun e => HD.out e.symm
        go_wp2
        go_roundg (gk - 1)
        case rel => exact ⟨q + 1, by omega, by go_num, HB, HN2⟩
        case measure => omega
    · obtain rfl : gk = 0 := by omega
      obtain rfl : L = q := by omega
      have HN := hid (HALL.out HNE.out)
      go_wp2
      go_ret
      exact ⟨-1, rfl, ⟨fun h => absurd h HN.out, fun h => absurd h (by omega)⟩, HB.out⟩
set_option maxHeartbeats 1000000 in
theorem lib_ContainsZ (v : Value) (ks : List Int) (x : Int) (B : Nat) (w : World) (hv : RdKs w (· < B) v ks) (hB : B ≤ w.heap.size) :
    Calls Tryz.prog 60 #[v, .int .i64 x] w (Ret w (.bool (decide (x ∈ ks)))) := by
  have HI := hid (lib_IndexZ v ks x B w hv hB)
  obtain ⟨va, vc, rfl, -⟩ := hv
  have HD : Hid (∀ r : Int, (x ∈ ks ↔ 0 ≤ r) → decide (x ∈ ks) = decide (0 ≤ r)) := hid (fun r h => by simp only [h])
  generalize ks.length = L at *
  generalize decide (x ∈ ks) = D at *
  go_enter Tryz.func60, Tryz.ntmps60
  go_wp2_with fail
  with_reducible refine HI.out.mono ?_
  rintro e w1 ⟨r, rfl, hr, hb1⟩
  have hD := HD.out r hr
  have HB1 := hid hb1
  clear hb1 HI HD hr
  by_cases h0 : 0 ≤ r
  · obtain rfl : D = true := by rw [hD, decide_eq_true h0]
    clear hD
    go_wp2
    go_ret
    exact ⟨ret_bool (by simp <;> omega), HB1.out⟩
  · obtain rfl : D = false := by rw [hD, decide_eq_false h0]
    clear hD
    go_wp2
    go_ret
    exact ⟨ret_bool (by simp <;> omega), HB1.out⟩
theorem z_flat (ks : List Int) : ks.map (fun k => Value.int .i64 k) = flatK 1 ks.length (zF ks) := by
  apply List.ext_getElem?
  intro m
  by_cases hm : m < ks.length
  · have h := flatK_at (k := 1) (f := zF ks) hm (show 0 < 1 by omega)
    simp only [Nat.mul_one, Nat.add_zero] at h
    rw [h]
    simp [zF, List.getD, hm]
  · rw [List.getElem?_eq_none (by simp; omega), List.getElem?_eq_none (by rw [flatK_len]; omega)]

theorem anc_step {xs : List Lk} {k : Nat} {S : List Int} : ancL xs (k + 1) S = match toL xs (S.getLastD 0) with
    | none => S
    | some y => if S.any (fun i => decide (i = y.src)) = true then S else ancL xs k (S ++ [y.src]) := rfl
theorem toL_src {xs : List Lk} {id : Int} {y : Lk} (h : toL xs id = some y) : y.src ∈ xs.map Lk.src := List.mem_map_of_mem (List.mem_of_find?_eq_some h)
theorem any_mem (S : List Int) (x : Int) : S.any (fun i => decide (i = x)) = decide (x ∈ S) := by
  rw [Bool.eq_iff_iff, List.any_eq_true, decide_eq_true_iff]
  constructor
  · rintro ⟨i, hi, h⟩
    rw [← of_decide_eq_true h]
    exact hi
  · intro h
    exact ⟨x, h, by simp⟩
theorem seen_le {xs : List Lk} {t : Int} {S : List Int} (hn : S.Nodup) (h : ∀ i ∈ S, i = t ∨ i ∈ xs.map Lk.src) : S.length ≤ xs.length + 1 := by
  have h1 := nodup_leI hn (l := t :: xs.map Lk.src) fun i hi => by
    rcases h i hi with rfl | h2
    · exact List.mem_cons_self
    · exact List.mem_cons_of_mem _ h2
  simpa using h1

/-- what is returned: the seen ones but the first -/
theorem drop_seen {W : World} {base g n c : Nat} {S : List Int} (hown : W.ownsRow base 3 1 (.slice (some ⟨g, 0, none⟩) n c) n (S.map fun k => Value.int .i64 k)) (hn : S.length = n) (h1 : 1 ≤ n) {a : Option Addr} (ha : c - 1 = 0 ∨ a = some ⟨g, 1, none⟩) {m c' : Nat} (hm : m = n - 1) (hc' : c' = c - 1) :
    RdKs W (fun b => base ≤ b ∧ b < W.heap.size) (.slice a m c') (S.drop 1) := by
  subst hm hc'
  have hlt := hown.lt g rfl
  rcases hown.2 with ⟨e, -⟩ | ⟨g2, cap, cur, e, hb, hheap, hnc, hcm, hsz, ht⟩
  · cases e
  · obtain ⟨e1, -, e2⟩ := Value.slice.inj e
    injection e1 with e3
    injection e3 with e4
    subst e4 e2
    have hld : (S.drop 1).length = n - 1 := by rw [List.length_drop, hn]
    unfold RdKs
    rw [hld]
    refine ⟨a, c - 1, rfl, by omega, by omega, fun hp => ?_⟩
    rcases ha with h0 | rfl
    · omega
    · refine ⟨g, 1, rfl, hlt, fun i hi j hj => ?_⟩
      obtain rfl : j = 0 := by omega
      have h3 := hown.cellAt (1 + i) (by omega)
      rw [show 1 + i * 1 + 0 = 1 + i by omega, h3]
      have h5 : 1 + i < S.length := by omega
      simp [zF, List.getD, Nat.add_comm 1 i, show i + 1 < S.length by omega]

/-- the way up, in new memory -/
def AncP (w : World) (xs : List Lk) (K : Nat) (t : Int) (e : Ending) (w' : World) : Prop :=
  ∃ u, e = .returned u ∧ RdKs w' (News w w') u ((ancL xs K [t]).drop 1) ∧ Below w.heap.size w w'
set_option maxRecDepth 100000 in
set_option maxHeartbeats 4000000 in
theorem lin_Ancestors (v : Value) (xs : List Lk) (B : Nat) (t : Int) (K : Nat) (w : World) (hK0 : xs.length + 1 ≤ K) (hl : xs.length ≤ 1048570) (hv : RdLk w (· < B) v xs) (hB : B ≤ w.heap.size) :
    Calls Tryz.prog 31 #[v, .int .i64 t] w (AncP w xs K t) := by
  have HTO := hid (fun id W (hW : Below w.heap.size w W) => lin_to v xs B id W (by omega) (hv.keep fun p (hp : p.block < B) => hW.cell (p := p) (by omega)) (Nat.le_trans hB hW.size))
  obtain ⟨va, vc, rfl, hvl, hvm⟩ := rdLk_len hv
  have HST := hid (fun k S => @anc_step xs k S)
  have HSL := hid (fun S => @seen_le xs t S)
  have HTS := hid (fun id y => @toL_src xs id y)
  clear hv
  unfold AncP
  generalize hK : ancL xs K [t] = R at *
  have HK := hid hK
  clear hK
  generalize hxl : xs.length = L at *
  clear hxl
  obtain ⟨i0, hi, hz0, hz1, hz2⟩ := info_parts info_int0
  have hown0 : (w.alloc (.cells #[.int .i64 t] 3)).ownsRow w.heap.size 3 1 (.slice (some ⟨w.heap.size, 0, none⟩) 1 1) 1 ([t].map fun k => Value.int .i64 k) := ⟨rfl, .inr ⟨w.heap.size, 1, #[.int .i64 t], rfl, Nat.le_refl _, BoxN.new _ _ _, Nat.le_refl _, by unfold maxLen; omega, rfl, rfl⟩⟩
  have HOWN0 := hid hown0
  have HB0 := hid ((Below.refl w.heap.size w).alloc (Nat.le_refl _) (.cells #[.int .i64 t] 3))
  clear hown0
  go_enter Tryz.func31, Tryz.ntmps31
  generalize hLA : Code.loop _ = LA
  go_wp2_with fail
  generalize w.alloc (.cells #[.int .i64 t] 3) = W0 at *
  subst hLA
  go_loopg [5] K (fun N s5 wr => ∃ (S : List Int) (g c r : Nat), s5 = .slice (some ⟨g, 0, none⟩) (r + 1) c ∧ S.length = r + 1 ∧ r + N = K ∧ Hid (S.Nodup) ∧ Hid (∀ i ∈ S, i = t ∨ i ∈ xs.map Lk.src) ∧ Hid (ancL xs N S = R) ∧ Hid (Below w.heap.size w wr) ∧
    Hid (wr.ownsRow w.heap.size 3 1 (.slice (some ⟨g, 0, none⟩) (r + 1) c) (r + 1) (S.map fun k => Value.int .i64 k)))
  case atStart => exact ⟨[t], w.heap.size, 1, 0, rfl, rfl, by omega, hid (by simp), hid (by simp), HK, HB0, HOWN0⟩
  case round =>
    obtain ⟨S, g, c, r, rfl, hS, hr, HND, HIN, HAN, HB, HOW⟩ := hrel
    have hsl := HSL.out S HND.out HIN.out
    obtain ⟨k, rfl⟩ : ∃ k, gk = k + 1 := ⟨gk - 1, by omega⟩
    have han := HAN.out
    rw [HST.out] at han
    have hrL : r ≤ L := by omega
    have hlast : S.getLastD 0 = S.getD r 0 := by
      have h1 : S ≠ [] := fun e => by rw [e] at hS; simp at hS
      rw [List.getLastD_eq_getLast?, List.getLast?_eq_getElem?, hS]
      rfl
    have hk0 := HOW.out.cellAt r (by omega)
    have k0 : wr.cell? ⟨g, r, none⟩ = some (.int .i64 (S.getLastD 0)) := by
      rw [hk0, hlast]
      simp [List.getD, show r < S.length by omega]
    have HTQ := hid (HTO.out (S.getLastD 0) wr HB.out)
    unfold ToP at HTQ
    have HTSq := hid (HTS.out (S.getLastD 0))
    have HCO := hid (fun W (hW : Below wr.heap.size wr W) x => (lib_ContainsZ (.slice (some ⟨g, 0, none⟩) (r + 1) c) S x W.heap.size W (by
      have h1 := own_later HOW.out hW
      rw [z_flat, hS] at h1
      have h2 := inK_of_owns h1
      unfold RdKs
      rw [hS]
      exact h2.more fun b hb => (h1.lt b hb).2) (Nat.le_refl _)))
    generalize S.getLastD 0 = last at *
    generalize hT : toL xs last = T at *
    clear hT hlast hk0
    have hwr1 : IntKind.i64.wrap (((r + 1 : Nat) : Int) - 1) = (r : Int) := IntWalk.i64_in _ (by omega) |>.trans (by omega)
    have hri : (r : Int) < ((r + 1 : Nat) : Int) := by omega
    have hwz := HB.out.size
    go_wp2_with fail
    with_reducible refine HTQ.out.mono ?_
    rintro e w5 ⟨hb5, hm⟩
    have hw5 := hb5.size
    have HB5 := hid (HB.out.trans (hb5.mono hwz))
    have HS5 := hid hb5
    have HO5 := hid (own_later HOW.out hb5)
    clear hb5 HTQ k0
    cases T with
    | none =>
      have he : e = .returned (.tuple #[.agg #[.int .i64 0, .int .i64 0, .slice none 0 0], .bool false]) := hm
      subst he
      have hSR : S = R := han
      clear han HCO HTSq
      have HB6 := hid (HB5.out.alloc HB5.out.size (.cells #[.int .i64 0, .int .i64 0, .slice none 0 0] 66))
      have HO6 := hid (HO5.out.alloc (.cells #[.int .i64 0, .int .i64 0, .slice none 0 0] 66))
      have hz6 : (w5.alloc (.cells #[.int .i64 0, .int .i64 0, .slice none 0 0] 66)).heap.size = w5.heap.size + 1 := by simp
      go_wp2
      all_goals
        go_ret
        refine ⟨_, rfl, ?_, HB6.out⟩
        first
          | (rw [← List.drop_one, ← hSR]; exact drop_seen HO6.out hS (by omega) (.inr rfl) (by omega) (by omega))
          | (rw [← List.drop_one, ← hSR]; exact drop_seen HO6.out hS (by omega) (.inl (by omega)) (by omega) (by omega))
    | some y =>
      obtain ⟨ua, uc, he, -⟩ : ∃ a c, e = .returned (.tuple #[.agg #[.int .i64 y.src, .int .i64 y.dst, .slice a y.ops.length c], .bool true]) ∧ RdPo wr (· < B) (.slice a y.ops.length c) y.ops := hm
      subst he
      have hys := HTSq.out y rfl
      have han2 : (if S.any (fun i => decide (i = y.src)) = true then S else ancL xs k (S ++ [y.src])) = R := han
      rw [any_mem] at han2
      clear han HTSq
      obtain ⟨ys, yd, yo⟩ := y
      simp only at hys han2 ⊢
      have HYS := hid hys
      generalize yo.length = l at *
      have HB6 := hid (HB5.out.alloc HB5.out.size (.cells #[.int .i64 ys, .int .i64 yd, .slice ua l uc] 66))
      have hs6 := HS5.out.trans (((Below.refl w5.heap.size w5).alloc (Nat.le_refl _) (.cells #[.int .i64 ys, .int .i64 yd, .slice ua l uc] 66)).mono hw5)
      have HO6 := hid (HO5.out.alloc (.cells #[.int .i64 ys, .int .i64 yd, .slice ua l uc] 66))
      have hz6 : (w5.alloc (.cells #[.int .i64 ys, .int .i64 yd, .slice ua l uc] 66)).heap.size = w5.heap.size + 1 := by simp
      have HCQ := hid (HCO.out (w5.alloc (.cells #[.int .i64 ys, .int .i64 yd, .slice ua l uc] 66)) hs6 ys)
      clear hys hs6 HCO
      by_cases hmem : ys ∈ S
      · have hSR : S = R := by rw [← han2, decide_eq_true hmem, if_pos rfl]
        rw [decide_eq_true hmem] at HCQ
        clear han2 hmem
        go_wp2_with fail
        with_reducible refine HCQ.out.mono ?_
        rintro e w7 ⟨rfl, hb7⟩
        have HB7 := hid (HB6.out.trans (hb7.mono HB6.out.size))
        have HO7 := hid (own_later HO6.out hb7)
        clear hb7
        go_wp2
        all_goals
          go_ret
          refine ⟨_, rfl, ?_, HB7.out⟩
          first
            | (rw [← List.drop_one, ← hSR]; exact drop_seen HO7.out hS (by omega) (.inr rfl) (by omega) (by omega))
            | (rw [← List.drop_one, ← hSR]; exact drop_seen HO7.out hS (by omega) (.inl (by omega)) (by omega) (by omega))
      · have hSR : ancL xs k (S ++ [ys]) = R := by rw [← han2, decide_eq_false hmem, if_neg (by simp)]
        rw [decide_eq_false hmem] at HCQ
        have HSR := hid hSR
        have HND2 : Hid ((S ++ [ys]).Nodup) := hid (List.nodup_append.2 ⟨HND.out, by simp, fun x hx u hu e => by rw [List.mem_singleton.1 hu] at e; rw [e] at hx; exact hmem hx⟩)
        have HIN2 : Hid (∀ i ∈ S ++ [ys], i = t ∨ i ∈ xs.map Lk.src) := hid (fun i hi => by
          rcases List.mem_append.1 hi with h | h
          · exact HIN.out i h
          · rw [List.mem_singleton.1 h]; exact .inr HYS.out)
        clear han2 hmem hSR
        go_wp2_with fail
        with_reducible refine HCQ.out.mono ?_
        rintro e w7 ⟨rfl, hb7⟩
        have hl6 := (BoxN.new w5 #[.int .i64 ys, .int .i64 yd, .slice ua l uc] 66).below hb7 (by simp)
        have x0 := hl6.cell 0 rfl
        have HB7 := hid (HB6.out.trans (hb7.mono HB6.out.size))
        have HO7 := hid ((own_later HO6.out hb7).alloc (.cells #[.int .i64 ys] 3))
        have HN7 := hid (BoxN.new w7 #[.int .i64 ys] 3)
        have HB8 := hid (HB7.out.alloc HB7.out.size (.cells #[.int .i64 ys] 3))
        have hol := HO7.out.lt
        have hw7 := HB7.out.size
        clear hb7 hl6
        go_wp2_with (at_builtin; refine wpList_append_form _ rfl _ _ 22 22 rfl w.heap.size 3 3 i0 (.int .i64 0) 1 8 Tryz.underlying22 Tryz.underlying22 hi hz0 hz1 hz2 rfl (by decide) (.slice (some ⟨g, 0, none⟩) (r + 1) c) (r + 1) _ rfl HO7.out (some ⟨_, 0, none⟩) 1 1 [.int .i64 ys] rfl rfl (fun _ => ⟨_, rfl, World.news_of_block HN7.out⟩) (by intro u hu; simp at hu; subst hu; rfl) (by omega) (by unfold maxLen; omega) (by omega) (by simp; omega) ?_; intro p8 cap8 w8 hown8 hg8 hat8 hlt8; have HG8 := hid hg8; have HOWN8 := hid hown8; clear hown8 hg8 hat8)
        go_wp2
        have hg8 := HG8.out
        have HB9 : Hid (Below w.heap.size w w8) := hid (HB8.out.trans ⟨hg8.os, hg8.tape, hg8.output, hg8.size, fun k hk => hg8.block k (Nat.lt_of_lt_of_le hk HB8.out.size) (fun e => by have := (hol k e.symm).1; omega)⟩)
        go_roundg k
        case rel => exact ⟨S ++ [ys], p8, cap8, r + 1, rfl, by simp [hS], by omega, HND2, HIN2, HSR, HB9, hid (by have h := HOWN8.out; simpa using h)⟩
        case measure => omega
end Go.Proofs.YtfmlpaplnkohpaaGreatDoor
