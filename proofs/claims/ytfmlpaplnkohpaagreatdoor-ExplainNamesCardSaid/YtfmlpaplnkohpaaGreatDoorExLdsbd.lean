/- Contracts of ref03.SameCells and ref03.Same at equal arguments. Plain: the example of chapter 38. Contracts of law38.base and of the sanity check of law 38. -/
import Derived.Test.YtfmlpaplnkohpaaGreatDoorExLdsbc
import Derived.Test.YtfmlpaplnkohpaaGreatDoorExLdsao
set_option linter.unusedVariables false
set_option linter.unusedSimpArgs false
namespace Go.Proofs.YtfmlpaplnkohpaaGreatDoor
open Go.RowKit

theorem cl_at {w : World} {S : Nat → Prop} {v : Value} {xs : List Cl} (h : RdCl w S v xs) {k : Nat} (hk : k < xs.length) : ∃ b o c, v = .slice (some ⟨b, o, none⟩) xs.length c ∧ S b ∧ w.cell? ⟨b, o + k * 2, none⟩ = some (.bool (xs.getD k Cl.z).null) ∧ w.cell? ⟨b, o + k * 2 + 1, none⟩ = some (.string (xs.getD k Cl.z).text) := by
  obtain ⟨a, c, e, -, -, hr⟩ := h
  obtain ⟨b, o, rfl, hb, hc⟩ := hr (by omega)
  exact ⟨b, o, c, e, hb, hc k hk 0 (by omega), hc k hk 1 (by omega)⟩
theorem rdCl_max {w : World} {S : Nat → Prop} {v : Value} {os : List Cl} (h : RdCl w S v os) : os.length ≤ 9223372036854775807 := by
  obtain ⟨a, c, -, h1, h2, -⟩ := h
  unfold maxLen at h2
  omega
theorem rdCo_max {w : World} {S : Nat → Prop} {v : Value} {os : List Co} (h : RdCo w S v os) : os.length ≤ 9223372036854775807 := by
  obtain ⟨uv, ⟨a, c, -, h1, h2, -⟩, -⟩ := h
  unfold maxLen at h2
  omega
theorem co_at {w : World} {S : Nat → Prop} {v : Value} {xs : List Co} (h : RdCo w S v xs) {q : Nat} (hq : q < xs.length) : ∃ b o c uv, v = .slice (some ⟨b, o, none⟩) xs.length c ∧ S b ∧ RdCl w S uv (xs.getD q Co.z).cells ∧ w.cell? ⟨b, o + q * 2, none⟩ = some (.string (xs.getD q Co.z).name) ∧ w.cell? ⟨b, o + q * 2 + 1, none⟩ = some uv := by
  obtain ⟨cv, ⟨a, c, e, -, -, hr⟩, hk⟩ := h
  obtain ⟨b, o, rfl, hb, hc⟩ := hr (by omega)
  exact ⟨b, o, c, cv q, e, hb, hk q hq, hc q hq 0 (by omega), hc q hq 1 (by omega)⟩

set_option maxRecDepth 100000 in
set_option maxHeartbeats 4000000 in
theorem ref_SameCells (x : Co) (u v : Value) (B : Nat) (w : World) (hu : RdCl w (· < B) u x.cells) (hv : RdCl w (· < B) v x.cells) (hB : B ≤ w.heap.size) :
    Calls Tryz.prog 48 #[.agg #[.string x.name, u], .agg #[.string x.name, v]] w (Ret w (.bool true)) := by
  obtain ⟨xn, xs⟩ := x
  simp only at hu hv
  have HU := hid hu
  have HV := hid hv
  have hmx := rdCl_max hu
  obtain ⟨ua, uc, rfl⟩ : ∃ a c, u = .slice a xs.length c := by
    obtain ⟨a, c, e, -⟩ := hu
    exact ⟨a, c, e⟩
  obtain ⟨va, vc, rfl⟩ : ∃ a c, v = .slice a xs.length c := by
    obtain ⟨a, c, e, -⟩ := hv
    exact ⟨a, c, e⟩
  clear hu hv
  simp only
  generalize hl : xs.length = L at *
  have HL := hid hl
  clear hl
  have HQ := hid ((BoxN.new w #[.string xn, .slice ua L uc] 39).alloc (.cells #[.string xn, .slice va L vc] 39))
  have hr := BoxN.new (w.alloc (.cells #[.string xn, .slice ua L uc] 39)) #[.string xn, .slice va L vc] 39
  rw [World.size_alloc] at hr
  have HR := hid hr
  have HB0 := hid (((Below.refl w.heap.size w).alloc (Nat.le_refl _) (.cells #[.string xn, .slice ua L uc] 39)).alloc (by simp) (.cells #[.string xn, .slice va L vc] 39))
  have hz0 : ((w.alloc (.cells #[.string xn, .slice ua L uc] 39)).alloc (.cells #[.string xn, .slice va L vc] 39)).heap.size = w.heap.size + 2 := by simp
  have q0 := HQ.out.cell 0 rfl
  have q1 := HQ.out.cell 1 rfl
  have r0 := hr.cell 0 rfl
  have r1 := hr.cell 1 rfl
  have ht : (xn.toList == xn.toList) = true := by simp
  clear hr
  go_enter Tryz.func48, Tryz.ntmps48
  generalize hLB : Code.loop _ = LB
  go_wp2_with fail
  generalize (w.alloc (.cells #[.string xn, .slice ua L uc] 39)).alloc (.cells #[.string xn, .slice va L vc] 39) = W2 at *
  have hz0a := Nat.le_of_eq hz0
  have hz0b := Nat.le_of_eq hz0.symm
  subst hLB
  clear q0 q1 r0 r1 hz0
  go_loopg [23] L (fun N i wr => ∃ q : Nat, q + N = L ∧ i = .int .i64 (q : Int) ∧ Hid (Below W2.heap.size W2 wr))
  case atStart => exact ⟨0, by omega, rfl, hid (Below.refl _ _)⟩
  case round =>
    obtain ⟨q, hq, rfl, HB⟩ := hrel
    by_cases hp : 0 < gk
    · have hqL : q < L := by omega
      obtain ⟨b5, o5, c5, e5, hb5, h5, h5'⟩ := cl_at HU.out (k := q) (by rw [HL.out]; exact hqL)
      obtain ⟨b6, o6, c6, e6, hb6, h6, h6'⟩ := cl_at HV.out (k := q) (by rw [HL.out]; exact hqL)
      obtain ⟨rfl, -, rfl⟩ := Value.slice.inj e5
      obtain ⟨rfl, -, rfl⟩ := Value.slice.inj e6
      have hb5' : b5 < B := hb5
      have hb6' : b6 < B := hb6
      have HBW := hid (HB0.out.trans (HB.out.mono (by omega)))
      have s0 := (HBW.out.cell (p := ⟨b5, o5 + q * 2, none⟩) (by show b5 < _; omega)).trans h5
      have s1 := (HBW.out.cell (p := ⟨b5, o5 + q * 2 + 1, none⟩) (by show b5 < _; omega)).trans h5'
      have s2 := (HBW.out.cell (p := ⟨b6, o6 + q * 2, none⟩) (by show b6 < _; omega)).trans h6
      have s3 := (HBW.out.cell (p := ⟨b6, o6 + q * 2 + 1, none⟩) (by show b6 < _; omega)).trans h6'
      have t0 := (HQ.out.below HB.out HQ.out.lt).cell 1 rfl
      have t1 := (HR.out.below HB.out HR.out.lt).cell 1 rfl
      clear e5 e6 h5 h6 h5' h6'
      generalize xs.getD q Cl.z = z at *
      obtain ⟨zn, zt⟩ := z
      simp only at s0 s1 s2 s3
      have hq1 : (q : Int) < (L : Int) := by omega
      have htt : (zt.toList == zt.toList) = true := by simp
      go_wp2
      go_region
      go_wp2
      go_roundg (gk - 1)
      case rel => exact ⟨q + 1, by omega, by go_num, hid (by have := HB.out; repeat' (first | (with_reducible exact Below.refl _ _) | (with_reducible assumption) | (with_reducible refine below_drewN ?_) | (with_reducible refine Below.alloc ?_ ?_ _) | (with_reducible refine Below.drew ?_) | (with_reducible refine Below.setCell ?_ ?_ _) | (with_reducible refine Below.trans ?_ (Below.mono (by with_reducible assumption) ?_)) | go_size))⟩
      case measure => omega
    · obtain rfl : gk = 0 := by omega
      obtain rfl : q = L := by omega
      go_wp2
      go_ret
      exact ⟨rfl, HB0.out.trans (HB.out.mono (by omega))⟩

set_option maxRecDepth 100000 in
set_option maxHeartbeats 4000000 in
theorem ref_SameT (id : Int) (nm : ByteArray) (xs : List Co) (u v : Value) (B : Nat) (w : World) (hu : RdCo w (· < B) u xs) (hv : RdCo w (· < B) v xs) (hB : B ≤ w.heap.size) :
    Calls Tryz.prog 24 #[.agg #[.int .i64 id, .string nm, u], .agg #[.int .i64 id, .string nm, v]] w (Ret w (.bool true)) := by
  have HU := hid hu
  have HV := hid hv
  have hmx := rdCo_max hu
  obtain ⟨ua, uc, rfl⟩ := rdCo_len hu
  obtain ⟨va, vc, rfl⟩ := rdCo_len hv
  clear hu hv
  generalize hl : xs.length = L at *
  have HL := hid hl
  clear hl
  have HQ := hid ((BoxN.new w #[.int .i64 id, .string nm, .slice ua L uc] 29).alloc (.cells #[.int .i64 id, .string nm, .slice va L vc] 29))
  have hr := BoxN.new (w.alloc (.cells #[.int .i64 id, .string nm, .slice ua L uc] 29)) #[.int .i64 id, .string nm, .slice va L vc] 29
  rw [World.size_alloc] at hr
  have HR := hid hr
  have HB0 := hid (((Below.refl w.heap.size w).alloc (Nat.le_refl _) (.cells #[.int .i64 id, .string nm, .slice ua L uc] 29)).alloc (by simp) (.cells #[.int .i64 id, .string nm, .slice va L vc] 29))
  have hz0 : ((w.alloc (.cells #[.int .i64 id, .string nm, .slice ua L uc] 29)).alloc (.cells #[.int .i64 id, .string nm, .slice va L vc] 29)).heap.size = w.heap.size + 2 := by simp
  have q0 := HQ.out.cell 0 rfl
  have q1 := HQ.out.cell 1 rfl
  have q2 := HQ.out.cell 2 rfl
  have r0 := hr.cell 0 rfl
  have r1 := hr.cell 1 rfl
  have r2 := hr.cell 2 rfl
  have ht : (nm.toList == nm.toList) = true := by simp
  clear hr
  go_enter Tryz.func24, Tryz.ntmps24
  generalize hLB : Code.loop _ = LB
  go_wp2_with fail
  generalize (w.alloc (.cells #[.int .i64 id, .string nm, .slice ua L uc] 29)).alloc (.cells #[.int .i64 id, .string nm, .slice va L vc] 29) = W2 at *
  have hz0a := Nat.le_of_eq hz0
  have hz0b := Nat.le_of_eq hz0.symm
  subst hLB
  clear q0 q1 q2 r0 r1 r2 hz0
  go_loopg [30] L (fun N i wr => ∃ q : Nat, q + N = L ∧ i = .int .i64 (q : Int) ∧ Hid (Below W2.heap.size W2 wr))
  case atStart => exact ⟨0, by omega, rfl, hid (Below.refl _ _)⟩
  case round =>
    obtain ⟨q, hq, rfl, HB⟩ := hrel
    by_cases hp : 0 < gk
    · have hqL : q < L := by omega
      have HBW := hid (HB0.out.trans (HB.out.mono (by omega)))
      have hws := HBW.out.size
      obtain ⟨b5, o5, c5, y5, e5, hb5, hk5, h5, h5'⟩ := co_at (HU.out.keep (w' := wr) fun p (hp : p.block < B) => HBW.out.cell (p := p) (by omega)) (q := q) (by rw [HL.out]; exact hqL)
      obtain ⟨b6, o6, c6, y6, e6, hb6, hk6, h6, h6'⟩ := co_at (HV.out.keep (w' := wr) fun p (hp : p.block < B) => HBW.out.cell (p := p) (by omega)) (q := q) (by rw [HL.out]; exact hqL)
      obtain ⟨rfl, -, rfl⟩ := Value.slice.inj e5
      obtain ⟨rfl, -, rfl⟩ := Value.slice.inj e6
      have hb5' : b5 < B := hb5
      have hb6' : b6 < B := hb6
      have HC := hid (fun p1 : LaterOf wr => later_call p1 (ref_SameCells (xs.getD q Co.z) y5 y6 B p1.W (hk5.keep fun p (hp : p.block < B) => p1.hb.cell (p := p) (by omega)) (hk6.keep fun p (hp : p.block < B) => p1.hb.cell (p := p) (by omega)) (by have := p1.hb.size; omega)))
      obtain ⟨d5, g5, rfl⟩ : ∃ a c, y5 = .slice a (xs.getD q Co.z).cells.length c := by
        obtain ⟨a, c, e, -⟩ := hk5
        exact ⟨a, c, e⟩
      obtain ⟨d6, g6, rfl⟩ : ∃ a c, y6 = .slice a (xs.getD q Co.z).cells.length c := by
        obtain ⟨a, c, e, -⟩ := hk6
        exact ⟨a, c, e⟩
      have s0 := fun p : LaterOf wr => p.cell h5
      have s1 := fun p : LaterOf wr => p.cell h5'
      have s2 := fun p : LaterOf wr => p.cell h6
      have s3 := fun p : LaterOf wr => p.cell h6'
      have t0 := fun p : LaterOf wr => p.cell (v := .slice (some ⟨b5, o5, none⟩) L uc) ((HQ.out.below HB.out HQ.out.lt).cell 2 rfl)
      have t1 := fun p : LaterOf wr => p.cell (v := .slice (some ⟨b6, o6, none⟩) L vc) ((HR.out.below HB.out HR.out.lt).cell 2 rfl)
      clear e5 e6 h5 h6 h5' h6' hk5 hk6 hb5 hb6
      generalize xs.getD q Co.z = z at *
      obtain ⟨zn, zc⟩ := z
      simp only at s0 s1 s2 s3 HC
      generalize zc.length = zl at *
      have hq1 : (q : Int) < (L : Int) := by omega
      go_upto_region 6 with fail
      refine wp_region_later (by kernel_rfl) (by kernel_rfl) ?_
      repeat (first | go_big_quiet_step ((go_at_call 48; with_reducible exact HC.out _)) | quiet_step ((go_at_call 48; with_reducible exact HC.out _)))
      refine wpQuiet_nil ?_
      intro _ hw'
      obtain ⟨p5, hw''⟩ := hw'
      subst hw''
      have hb8 := p5.hb
      generalize p5.W = w8 at *
      have HB8 := hid (HB.out.trans (hb8.mono (by have := HB.out.size; omega)))
      clear hb8 p5 s0 s1 s2 s3 t0 t1 HC
      go_wp2
      go_roundg (gk - 1)
      case rel => exact ⟨q + 1, by omega, by go_num, HB8⟩
      case measure => omega
    · obtain rfl : gk = 0 := by omega
      obtain rfl : q = L := by omega
      go_wp2
      go_ret
      exact ⟨rfl, HB0.out.trans (HB.out.mono (by omega))⟩
end Go.Proofs.YtfmlpaplnkohpaaGreatDoor

namespace Go.Proofs.YtfmlpaplnkohpaaGreatDoor
open Go.RowKit

instance : DecidableEq Po := fun a b => decidable_of_iff (a.kind = b.kind ∧ a.col = b.col ∧ a.text = b.text ∧ a.cols = b.cols) (by cases a; cases b; simp)
def base38 : List Co := [⟨⟨#[99, 105, 116, 121]⟩, [⟨false, ⟨#[66, 111, 110, 110]⟩⟩, ⟨false, ⟨#[85, 108, 109]⟩⟩, ⟨false, ⟨#[66, 111, 110, 110]⟩⟩]⟩, ⟨⟨#[110]⟩, [⟨false, ⟨#[49]⟩⟩, ⟨false, ⟨#[50]⟩⟩, ⟨false, ⟨#[51]⟩⟩]⟩]
def goal38 : List Co := [⟨⟨#[110]⟩, [⟨false, ⟨#[49]⟩⟩, ⟨false, ⟨#[51]⟩⟩]⟩]
theorem find38 : findL base38 goal38 = some [opEq 0 ⟨#[66, 111, 110, 110]⟩, opProj [1]] := by decide +kernel
end Go.Proofs.YtfmlpaplnkohpaaGreatDoor

namespace Go.Proofs.YtfmlpaplnkohpaaGreatDoor
open Go.RowKit

theorem rdCl_box {w : World} {b : Nat} {t : TypeId} {vs : Array Value} {cs : List Cl} (hb : BoxN w b t vs) (hvs : ∀ i, i < cs.length → ∀ j, j < 2 → vs[i * 2 + j]? = some (clF cs i j)) (hm : cs.length ≤ maxLen) : RdCl w (· < w.heap.size) (.slice (some ⟨b, 0, none⟩) cs.length cs.length) cs :=
  ⟨_, _, rfl, Nat.le_refl _, hm, fun _ => ⟨b, 0, rfl, hb.lt, fun i hi j hj => by rw [Nat.zero_add]; exact hb.cell _ (hvs i hi j hj)⟩⟩
theorem rdCo_box {w : World} {b : Nat} {t : TypeId} {vs : Array Value} {cs : List Co} {uv : Nat → Value} (hb : BoxN w b t vs) (hvs : ∀ i, i < cs.length → ∀ j, j < 2 → vs[i * 2 + j]? = some (coF cs uv i j)) (hk : ∀ i, i < cs.length → RdCl w (· < w.heap.size) (uv i) (cs.getD i Co.z).cells) (hm : cs.length ≤ maxLen) : RdCo w (· < w.heap.size) (.slice (some ⟨b, 0, none⟩) cs.length cs.length) cs :=
  ⟨uv, ⟨_, _, rfl, Nat.le_refl _, hm, fun _ => ⟨b, 0, rfl, hb.lt, fun i hi j hj => by rw [Nat.zero_add]; exact hb.cell _ (hvs i hi j hj)⟩⟩, hk⟩
theorem rdKs_box {w : World} {b : Nat} {t : TypeId} {vs : Array Value} {ks : List Int} (hb : BoxN w b t vs) (hvs : ∀ i, i < ks.length → vs[i]? = some (.int .i64 (ks.getD i 0))) (hm : ks.length ≤ maxLen) : RdKs w (· < w.heap.size) (.slice (some ⟨b, 0, none⟩) ks.length ks.length) ks :=
  ⟨_, _, rfl, Nat.le_refl _, hm, fun _ => ⟨b, 0, rfl, hb.lt, fun i hi j hj => by
    obtain rfl : j = 0 := by omega
    rw [Nat.zero_add, Nat.mul_one, Nat.add_zero]
    exact hb.cell _ (hvs i hi)⟩⟩
theorem rdKs_nil (w : World) (S : Nat → Prop) : RdKs w S (.slice none 0 0) [] := InK.nil
theorem rdPo_box {w : World} {b : Nat} {t : TypeId} {vs : Array Value} {os : List Po} {uv : Nat → Value} (hb : BoxN w b t vs) (hvs : ∀ i, i < os.length → ∀ j, j < 4 → vs[i * 4 + j]? = some (poF os uv i j)) (hk : ∀ i, i < os.length → RdKs w (· < w.heap.size) (uv i) (os.getD i Po.z).cols) (hm : os.length ≤ maxLen) : RdPo w (· < w.heap.size) (.slice (some ⟨b, 0, none⟩) os.length os.length) os :=
  ⟨uv, ⟨_, _, rfl, Nat.le_refl _, hm, fun _ => ⟨b, 0, rfl, hb.lt, fun i hi j hj => by rw [Nat.zero_add]; exact hb.cell _ (hvs i hi j hj)⟩⟩, hk⟩
/-- two operations in one block -/
theorem rdPo_two {w : World} {b : Nat} {t : TypeId} {o p : Po} {x y : Value} (hb : BoxN w b t #[.int .i64 o.kind, .int .i64 o.col, .string o.text, x, .int .i64 p.kind, .int .i64 p.col, .string p.text, y]) (hx : RdKs w (· < w.heap.size) x o.cols) (hy : RdKs w (· < w.heap.size) y p.cols) : RdPo w (· < w.heap.size) (.slice (some ⟨b, 0, none⟩) 2 2) [o, p] := by
  refine rdPo_box (os := [o, p]) (uv := fun i => if i = 0 then x else y) hb (fun i hi j hj => ?_) (fun i hi => ?_) (by simp [maxLen])
  · have h2 : i < 2 := hi
    rcases (show i = 0 ∨ i = 1 by omega) with rfl | rfl <;> rcases (show j = 0 ∨ j = 1 ∨ j = 2 ∨ j = 3 by omega) with rfl | rfl | rfl | rfl <;> rfl
  · have h2 : i < 2 := hi
    rcases (show i = 0 ∨ i = 1 by omega) with rfl | rfl
    · exact hx
    · exact hy
theorem base38_ok : TabV ⟨1, ⟨#[]⟩, base38⟩ := ⟨by decide, by decide, by unfold TextOk; decide +kernel, by decide, 3, by decide, by unfold CellOk TextOk; decide +kernel⟩
theorem base38_few : Few base38 := ⟨3, by decide, by unfold ColsV CellOk TextOk; decide +kernel⟩
theorem goal38_ok : TabV ⟨0, ⟨#[]⟩, goal38⟩ := ⟨by decide, by decide, by unfold TextOk; decide +kernel, by decide, 2, by decide, by unfold CellOk TextOk; decide +kernel⟩

set_option maxRecDepth 100000 in
set_option maxHeartbeats 1000000 in
theorem law_base (w : World) : Calls Tryz.prog 36 #[] w (fun e w' => ∃ v, e = .returned (.agg #[.int .i64 1, .string ⟨#[]⟩, v]) ∧ RdCo w' (· < w'.heap.size) v base38 ∧ Below w.heap.size w w') := by
  have hw1 : w.alloc (.cells #[.int .i64 1, .string ⟨#[]⟩, .slice (some ⟨w.heap.size + 1 + 1 + 1, 0, none⟩) 2 2] 29) = w.alloc (.cells #[.int .i64 1, .string ⟨#[]⟩, .slice (some ⟨w.heap.size + 1 + 1 + 1, 0, none⟩) 2 2] 29) := rfl
  obtain ⟨w1, hd1⟩ : ∃ w1, w1 = w.alloc (.cells #[.int .i64 1, .string ⟨#[]⟩, .slice (some ⟨w.heap.size + 1 + 1 + 1, 0, none⟩) 2 2] 29) := ⟨_, rfl⟩
  obtain ⟨w2, hd2⟩ : ∃ w2, w2 = w1.alloc (.cells #[.bool false, .string ⟨#[66, 111, 110, 110]⟩, .bool false, .string ⟨#[85, 108, 109]⟩, .bool false, .string ⟨#[66, 111, 110, 110]⟩] 42) := ⟨_, rfl⟩
  obtain ⟨w3, hd3⟩ : ∃ w3, w3 = w2.alloc (.cells #[.bool false, .string ⟨#[49]⟩, .bool false, .string ⟨#[50]⟩, .bool false, .string ⟨#[51]⟩] 42) := ⟨_, rfl⟩
  obtain ⟨w4, hd4⟩ : ∃ w4, w4 = w3.alloc (.cells #[.string ⟨#[99, 105, 116, 121]⟩, .slice (some ⟨w.heap.size + 1, 0, none⟩) 3 3, .string ⟨#[110]⟩, .slice (some ⟨w.heap.size + 1 + 1, 0, none⟩) 3 3] 39) := ⟨_, rfl⟩
  have e1 : w1.heap.size = w.heap.size + 1 := by rw [hd1]; simp
  have e2 : w2.heap.size = w.heap.size + 1 + 1 := by rw [hd2, World.size_alloc, e1]
  have e3 : w3.heap.size = w.heap.size + 1 + 1 + 1 := by rw [hd3, World.size_alloc, e2]
  have b2 : BoxN w2 (w.heap.size + 1) 42 #[.bool false, .string ⟨#[66, 111, 110, 110]⟩, .bool false, .string ⟨#[85, 108, 109]⟩, .bool false, .string ⟨#[66, 111, 110, 110]⟩] := by rw [← e1, hd2]; exact BoxN.new _ _ _
  have b3 : BoxN w3 (w.heap.size + 1 + 1) 42 #[.bool false, .string ⟨#[49]⟩, .bool false, .string ⟨#[50]⟩, .bool false, .string ⟨#[51]⟩] := by rw [← e2, hd3]; exact BoxN.new _ _ _
  have b4 : BoxN w4 (w.heap.size + 1 + 1 + 1) 39 #[.string ⟨#[99, 105, 116, 121]⟩, .slice (some ⟨w.heap.size + 1, 0, none⟩) 3 3, .string ⟨#[110]⟩, .slice (some ⟨w.heap.size + 1 + 1, 0, none⟩) 3 3] := by rw [← e3, hd4]; exact BoxN.new _ _ _
  have b24 : BoxN w4 (w.heap.size + 1) 42 #[.bool false, .string ⟨#[66, 111, 110, 110]⟩, .bool false, .string ⟨#[85, 108, 109]⟩, .bool false, .string ⟨#[66, 111, 110, 110]⟩] := by rw [hd4, hd3]; exact (b2.alloc _).alloc _
  have b34 : BoxN w4 (w.heap.size + 1 + 1) 42 #[.bool false, .string ⟨#[49]⟩, .bool false, .string ⟨#[50]⟩, .bool false, .string ⟨#[51]⟩] := by rw [hd4]; exact b3.alloc _
  have b0 : BoxN w4 w.heap.size 29 #[.int .i64 1, .string ⟨#[]⟩, .slice (some ⟨w.heap.size + 1 + 1 + 1, 0, none⟩) 2 2] := by rw [hd4, hd3, hd2, hd1]; exact (((BoxN.new _ _ _).alloc _).alloc _).alloc _
  have HB : Hid (Below w.heap.size w w4) := hid (by rw [hd4, hd3, hd2, hd1]; exact ((((Below.refl w.heap.size w).alloc (Nat.le_refl _) _).alloc (by simp) _).alloc (by simp; omega) _).alloc (by simp; omega) _)
  have HRD : Hid (RdCo w4 (· < w4.heap.size) (.slice (some ⟨w.heap.size + 1 + 1 + 1, 0, none⟩) 2 2) base38) := hid (by
    refine rdCo_box (cs := base38) (uv := fun i => if i = 0 then .slice (some ⟨w.heap.size + 1, 0, none⟩) 3 3 else .slice (some ⟨w.heap.size + 1 + 1, 0, none⟩) 3 3) b4 (fun i hi j hj => ?_) (fun i hi => ?_) (by decide)
    · have h2 : i < 2 := hi
      rcases (show i = 0 ∨ i = 1 by omega) with rfl | rfl <;> rcases (show j = 0 ∨ j = 1 by omega) with rfl | rfl <;> rfl
    · have h2 : i < 2 := hi
      rcases (show i = 0 ∨ i = 1 by omega) with rfl | rfl
      · refine rdCl_box (cs := [⟨false, ⟨#[66, 111, 110, 110]⟩⟩, ⟨false, ⟨#[85, 108, 109]⟩⟩, ⟨false, ⟨#[66, 111, 110, 110]⟩⟩]) b24 (fun i hi j hj => ?_) (by decide)
        have h3 : i < 3 := hi
        rcases (show i = 0 ∨ i = 1 ∨ i = 2 by omega) with rfl | rfl | rfl <;> rcases (show j = 0 ∨ j = 1 by omega) with rfl | rfl <;> rfl
      · refine rdCl_box (cs := [⟨false, ⟨#[49]⟩⟩, ⟨false, ⟨#[50]⟩⟩, ⟨false, ⟨#[51]⟩⟩]) b34 (fun i hi j hj => ?_) (by decide)
        have h3 : i < 3 := hi
        rcases (show i = 0 ∨ i = 1 ∨ i = 2 by omega) with rfl | rfl | rfl <;> rcases (show j = 0 ∨ j = 1 by omega) with rfl | rfl <;> rfl)
  have c0 := b0.cell 0 rfl
  have c1 := b0.cell 1 rfl
  have c2 := b0.cell 2 rfl
  clear b2 b3 b4 b24 b34 b0 e1 e2 e3 hw1
  go_enter Tryz.func36, Tryz.ntmps36
  go_wp2_with fail
  rw [← hd1, ← hd2, ← hd3, ← hd4]
  clear hd1 hd2 hd3 hd4
  refine bodyPost_ret (v := .agg #[.int .i64 1, .string ⟨#[]⟩, .slice (some ⟨w.heap.size + 1 + 1 + 1, 0, none⟩) 2 2]) (by simp [results, Tryz.results36, go_sem, c0, c1, c2]) rfl ⟨_, rfl, HRD.out, HB.out⟩

set_option maxRecDepth 100000 in
set_option maxHeartbeats 4000000 in
theorem law38_awake (w : World) (hT : Tabs w) : Calls Tryz.prog 12 #[] w (Ret w (.bool true)) := by
  have HT := hid hT
  clear hT
  obtain ⟨w1, hd1⟩ : ∃ w1, w1 = w.alloc (.cells #[.bool false, .string ⟨#[49]⟩, .bool false, .string ⟨#[51]⟩] 42) := ⟨_, rfl⟩
  obtain ⟨w2, hd2⟩ : ∃ w2, w2 = w1.alloc (.cells #[.string ⟨#[110]⟩, .slice (some ⟨w.heap.size, 0, none⟩) 2 2] 39) := ⟨_, rfl⟩
  obtain ⟨W0, hd3⟩ : ∃ w3, w3 = w2.alloc (.cells #[.int .i64 0, .string ⟨#[]⟩, .slice (some ⟨w.heap.size + 1, 0, none⟩) 1 1] 29) := ⟨_, rfl⟩
  have e1 : w1.heap.size = w.heap.size + 1 := by rw [hd1]; simp
  have e2 : w2.heap.size = w.heap.size + 1 + 1 := by rw [hd2, World.size_alloc, e1]
  have b1 : BoxN w1 w.heap.size 42 #[.bool false, .string ⟨#[49]⟩, .bool false, .string ⟨#[51]⟩] := by rw [hd1]; exact BoxN.new _ _ _
  have b2 : BoxN w2 (w.heap.size + 1) 39 #[.string ⟨#[110]⟩, .slice (some ⟨w.heap.size, 0, none⟩) 2 2] := by rw [← e1, hd2]; exact BoxN.new _ _ _
  have b3 : BoxN W0 (w.heap.size + 1 + 1) 29 #[.int .i64 0, .string ⟨#[]⟩, .slice (some ⟨w.heap.size + 1, 0, none⟩) 1 1] := by rw [← e2, hd3]; exact BoxN.new _ _ _
  have b13 : BoxN W0 w.heap.size 42 #[.bool false, .string ⟨#[49]⟩, .bool false, .string ⟨#[51]⟩] := by rw [hd3, hd2]; exact (b1.alloc _).alloc _
  have b23 : BoxN W0 (w.heap.size + 1) 39 #[.string ⟨#[110]⟩, .slice (some ⟨w.heap.size, 0, none⟩) 2 2] := by rw [hd3]; exact b2.alloc _
  have HB0 : Hid (Below w.heap.size w W0) := hid (by rw [hd3, hd2, hd1]; exact (((Below.refl w.heap.size w).alloc (Nat.le_refl _) _).alloc (by simp) _).alloc (by simp; omega) _)
  have HRD : Hid (RdCo W0 (· < W0.heap.size) (.slice (some ⟨w.heap.size + 1, 0, none⟩) 1 1) goal38) := hid (by
    refine rdCo_box (cs := goal38) (uv := fun i => .slice (some ⟨w.heap.size, 0, none⟩) 2 2) b23 (fun i hi j hj => ?_) (fun i hi => ?_) (by decide)
    · have h2 : i < 1 := hi
      obtain rfl : i = 0 := by omega
      rcases (show j = 0 ∨ j = 1 by omega) with rfl | rfl <;> rfl
    · have h2 : i < 1 := hi
      obtain rfl : i = 0 := by omega
      refine rdCl_box (cs := [⟨false, ⟨#[49]⟩⟩, ⟨false, ⟨#[51]⟩⟩]) b13 (fun i hi j hj => ?_) (by decide)
      have h3 : i < 2 := hi
      rcases (show i = 0 ∨ i = 1 by omega) with rfl | rfl <;> rcases (show j = 0 ∨ j = 1 by omega) with rfl | rfl <;> rfl)
  have HX := hid b3
  have HDR : Hid (Below W0.heap.size W0 W0.drew) := hid (Below.refl W0.heap.size W0).drew
  have HG := hid (fun W (hW : Below W0.heap.size W0 W) => (⟨(b3.below hW b3.lt).cell 0 rfl, (b3.below hW b3.lt).cell 1 rfl, (b3.below hW b3.lt).cell 2 rfl⟩ : W.cell? ⟨w.heap.size + 1 + 1, 0, none⟩ = some (.int .i64 0) ∧ W.cell? ⟨w.heap.size + 1 + 1, 1, none⟩ = some (.string ⟨#[]⟩) ∧ W.cell? ⟨w.heap.size + 1 + 1, 2, none⟩ = some (.slice (some ⟨w.heap.size + 1, 0, none⟩) 1 1)))
  have HF : Hid (∀ (v : Value) (W : World), RdCo W (· < W.heap.size) v base38 → Below W0.heap.size W0 W → Calls Tryz.prog 16 #[.agg #[.int .i64 1, .string ⟨#[]⟩, v], .agg #[.int .i64 0, .string ⟨#[]⟩, .slice (some ⟨w.heap.size + 1, 0, none⟩) 1 1]] W (FoundP W (some [opEq 0 ⟨#[66, 111, 110, 110]⟩, opProj [1]]))) := hid (fun v W hv hW => by
    have h := expl_Find ⟨1, ⟨#[]⟩, base38⟩ ⟨0, ⟨#[]⟩, goal38⟩ v (.slice (some ⟨w.heap.size + 1, 0, none⟩) 1 1) W.heap.size W base38_ok goal38_ok base38_few hv ((HRD.out.keep fun p (hp : p.block < W0.heap.size) => hW.cell (p := p) hp).more fun b (hb : b < W0.heap.size) => Nat.lt_of_lt_of_le hb hW.size) (Nat.le_refl _) (HT.out.below (HB0.out.trans (hW.mono HB0.out.size)))
    rw [show findL (Ta.mk 1 ⟨#[]⟩ base38).cols (Ta.mk 0 ⟨#[]⟩ goal38).cols = _ from find38] at h
    exact h)
  clear b1 b2 b3 b13 b23 e1 e2 HRD
  go_enter Tryz.func12, Tryz.ntmps12
  go_wp2_with fail
  rw [← hd1, ← hd2, ← hd3]
  clear hd1 hd2 hd3
  generalize w.heap.size + 1 + 1 = tb at *
  go_region_held3 (fun w' => w'.cell? ⟨tb, 0, none⟩ = some (.int .i64 0) ∧ w'.cell? ⟨tb, 1, none⟩ = some (.string ⟨#[]⟩) ∧ w'.cell? ⟨tb, 2, none⟩ = some (.slice (some ⟨w.heap.size + 1, 0, none⟩) 1 1))
    (first | exact HG.out _ (Below.refl _ _) | exact HG.out _ HDR.out | exact HG.out _ HC6.out | exact HG.out _ HC5.out | go_keep)
    (first
      | (go_at_call 36; go_must ((with_reducible refine (law_base _).mono ?_); rintro e w5 ⟨v5, rfl, hrd5, hb5⟩; have HRD5 := hid hrd5; have HC5 : Hid (Below W0.heap.size W0 w5) := hid (by first | exact HDR.out.trans (hb5.mono (Nat.le_refl _)) | exact hb5); clear hrd5 hb5))
      | (go_at_call 16; go_must ((with_reducible refine (HF.out _ _ HRD5.out HC5.out).mono ?_); rintro e w6 ⟨v6, rfl, hpo6, hb6⟩; have HPO6 := hid hpo6; have HC6 : Hid (Below W0.heap.size W0 w6) := hid (HC5.out.trans (hb6.mono HC5.out.size)); clear hpo6 hb6)))
  all_goals
    have HPF : Hid (RdPo w6 (· < w6.heap.size) v6 [opEq 0 ⟨#[66, 111, 110, 110]⟩, opProj [1]]) := HPO6
    have HBW := hid (HB0.out.trans (HC6.out.mono HB0.out.size))
    obtain ⟨w7, hd7⟩ : ∃ w7, w7 = w6.alloc (.cells #[.int .i64 1] 3) := ⟨_, rfl⟩
    obtain ⟨w8, hd8⟩ : ∃ w8, w8 = w7.alloc (.cells #[.int .i64 1, .int .i64 0, .string ⟨#[66, 111, 110, 110]⟩, .slice none 0 0, .int .i64 3, .int .i64 0, .string ⟨#[]⟩, .slice (some ⟨w6.heap.size, 0, none⟩) 1 1] 47) := ⟨_, rfl⟩
    have e7 : w7.heap.size = w6.heap.size + 1 := by rw [hd7]; simp
    have b7 : BoxN w7 w6.heap.size 3 #[.int .i64 1] := by rw [hd7]; exact BoxN.new _ _ _
    have b8 : BoxN w8 (w6.heap.size + 1) 47 #[.int .i64 1, .int .i64 0, .string ⟨#[66, 111, 110, 110]⟩, .slice none 0 0, .int .i64 3, .int .i64 0, .string ⟨#[]⟩, .slice (some ⟨w6.heap.size, 0, none⟩) 1 1] := by rw [← e7, hd8]; exact BoxN.new _ _ _
    have b78 : BoxN w8 w6.heap.size 3 #[.int .i64 1] := by rw [hd8]; exact b7.alloc _
    have HB68 : Hid (Below w6.heap.size w6 w8) := hid (by rw [hd8, hd7]; exact ((Below.refl w6.heap.size w6).alloc (Nat.le_refl _) _).alloc (by simp) _)
    have HSM := hid (ref_SameOps v6 (.slice (some ⟨w6.heap.size + 1, 0, none⟩) 2 2) [opEq 0 ⟨#[66, 111, 110, 110]⟩, opProj [1]] w8.heap.size w8 ((HPF.out.keep fun p hp => HB68.out.cell (p := p) hp).more fun b (hb : b < w6.heap.size) => Nat.lt_of_lt_of_le hb HB68.out.size) (rdPo_two (o := opEq 0 ⟨#[66, 111, 110, 110]⟩) (p := opProj [1]) b8 (rdKs_nil _ _) (rdKs_box (ks := [1]) b78 (fun i hi => by have h1 : i < 1 := hi; obtain rfl : i = 0 := (by omega); rfl) (by decide))) (Nat.le_refl _))
    clear b7 b8 b78 e7
    go_wp2_with fail
    rw [← hd7, ← hd8]
    with_reducible refine HSM.out.mono ?_
    rintro e w9 ⟨rfl, hb9⟩
    have HB9 := hid (HBW.out.trans ((HB68.out.trans (hb9.mono HB68.out.size)).mono HBW.out.size))
    go_wp2
    go_ret
    exact ⟨rfl, HB9.out⟩
end Go.Proofs.YtfmlpaplnkohpaaGreatDoor
