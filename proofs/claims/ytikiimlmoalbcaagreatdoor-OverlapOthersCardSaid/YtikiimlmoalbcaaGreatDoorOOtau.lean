/- Contracts of fraction.Of (small numbers), containment.Valid and containment.Score. Contracts of fraction.Of at 0 / 0 and of containment's score, also at no common values. Contracts of containment.Score where there is none, and of the closure that asks for it. Contracts of the scores that a search asks for: containment.of$1, bounded.Score.positive. Contract of bounded's positive at containment's scores. Contract of (*bounded.search).hit. -/
import Derived.Test.YtikiimlmoalbcaaGreatDoorOOtat
import Derived.Test.YtikiimlmoalbcaaGreatDoorOOtas
import Derived.Deep.RegionHeld3
import Derived.Deep.Cut
set_option linter.unusedVariables false
set_option linter.unusedSimpArgs false
namespace Go.Proofs.YtikiimlmoalbcaaGreatDoor.Fr
open Go.RowKit
set_option maxRecDepth 100000 in
set_option maxHeartbeats 2000000 in
theorem frac_Of1 (n d : Nat) (w : World) (hn : n < 9223372036854775808) (hd : 0 < d) (hd2 : d < 4294967296) :
  Calls Tryz.prog 92 #[.int .i64 (n : Int), .int .i64 (d : Int)] w (GivesFE w false (n / Nat.gcd n d) (d / Nat.gcd n d) (.int .i64 0)) := by
 have hl2 := dig_length_64 (n := n) (by omega)
 have hok : okBig false (dig n) = true := okBig_false n (by omega)
 have HM := hid (fun W a a' c c' hx hy => frac_Make1 false a a' c c' n d W hx hy hok (Nat.le_trans hl2 (by omega)) hd hd2)
 clear hok hl2
 generalize n / Nat.gcd n d = p at *
 generalize d / Nat.gcd n d = q at *
 go_enter Tryz.func92, Tryz.ntmps92
 go_wp2_with fail
 refine (frac_FromInt n _ hn).mono ?_
 rintro e w1 ⟨a1, c1, rfl, hr1, ho1, hb1⟩
 have HR1 := hid hr1
 have HB1 := hid hb1
 have hz1 := hb1.size
 have k0 := cell_later hb1 (a := ⟨w.heap.size, 0, none⟩) (v := .bool false) (by go_cell)
 have k1 := cell_later hb1 (a := ⟨w.heap.size, 1, none⟩) (v := .slice none 0 0) (by go_cell)
 have k2 := cell_later hb1 (a := ⟨w.heap.size, 2, none⟩) (v := .bool false) (by go_cell)
 have k3 := cell_later hb1 (a := ⟨w.heap.size, 3, none⟩) (v := .slice none 0 0) (by go_cell)
 have fk0 := frozen_later hb1 (a := ⟨w.heap.size, 0, none⟩) (v := .bool false) (by go_cell) (by simp [go_sem])
 have fk1 := frozen_later hb1 (a := ⟨w.heap.size, 1, none⟩) (v := .slice none 0 0) (by go_cell) (by simp [go_sem])
 have fk2 := frozen_later hb1 (a := ⟨w.heap.size, 2, none⟩) (v := .bool false) (by go_cell) (by simp [go_sem])
 have fk3 := frozen_later hb1 (a := ⟨w.heap.size, 3, none⟩) (v := .slice none 0 0) (by go_cell) (by simp [go_sem])
 have hA1 : Below w.heap.size w w1 := by repeat' (first | (with_reducible exact Below.refl _ _) | (with_reducible assumption) | (with_reducible refine below_drewN ?_) | (with_reducible refine Below.alloc ?_ ?_ _) | (with_reducible refine Below.drew ?_) | (with_reducible refine Below.setCell ?_ ?_ _) | (with_reducible refine Below.trans ?_ (Below.mono (by with_reducible assumption) ?_)) | go_size)
 have HA1 := hid hA1
 clear hb1 hA1 hr1 ho1
 simp at hz1
 go_wp2_with fail
 refine (frac_FromInt d _ (by omega)).mono ?_
 rintro e w2 ⟨a2, c2, rfl, hr1, ho1, hb2⟩
 have HR2 := hid hr1
 have HB2 := hid hb2
 have hz2 := hb2.size
 have j0 := cell_later hb2 k0
 have j1 := cell_later hb2 k1
 have j2 := cell_later hb2 k2
 have j3 := cell_later hb2 k3
 have fj0 := frozen_later hb2 k0 fk0
 have fj1 := frozen_later hb2 k1 fk1
 have fj2 := frozen_later hb2 k2 fk2
 have fj3 := frozen_later hb2 k3 fk3
 clear hr1 ho1 hb2
 go_wp2_with fail
 refine (HM.out _ _ _ _ _ (HR1.out.kept HB2.out) HR2.out).mono ?_
 rintro e w3 ⟨a3, c3, a4, c4, rfl, hN, hb3⟩
 have HN := hid hN
 have HB3 := hid hb3
 have hz3 := hb3.size
 have m0 := cell_later hb3 j0
 have m1 := cell_later hb3 j1
 have m2 := cell_later hb3 j2
 have m3 := cell_later hb3 j3
 have fm0 := frozen_later hb3 j0 fj0
 have fm1 := frozen_later hb3 j1 fj1
 have fm2 := frozen_later hb3 j2 fj2
 have fm3 := frozen_later hb3 j3 fj3
 clear hN hb3
 go_wp2
 refine bodyPost_ret (by simp [results, Tryz.results92, go_sem, m0, m1, m2, m3]; rfl) rfl ?_
 exact ⟨a3, c3, a4, c4, by first | rfl | simp, ((((HN.out.setCell (by simp; omega)).setCell (by simp; omega)).setCell (by simp; omega)).setCell (by simp; omega)).mono (by omega), by have h1 := HA1.out; have h2 := HB2.out; have h3 := HB3.out; repeat' (first | (with_reducible exact Below.refl _ _) | (with_reducible assumption) | (with_reducible refine below_drewN ?_) | (with_reducible refine Below.alloc ?_ ?_ _) | (with_reducible refine Below.drew ?_) | (with_reducible refine Below.setCell ?_ ?_ _) | (with_reducible refine Below.trans ?_ (Below.mono (by with_reducible assumption) ?_)) | go_size)⟩
def denOf (kind common query size : Nat) : Nat := if kind = 1 then query else if kind = 2 then size else query + size - common
end Go.Proofs.YtikiimlmoalbcaaGreatDoor.Fr

namespace Go.Proofs.YtikiimlmoalbcaaGreatDoor.Fr
open Go.RowKit
def ZeroF (w : World) (e : Ending) (w' : World) : Prop := ∃ z : Int, z ≠ 0 ∧ e = .returned (.tuple #[.agg #[.bool false, .slice none 0 0, .bool false, .slice none 0 0], .int .i64 z]) ∧ Below w.heap.size w w'
end Go.Proofs.YtikiimlmoalbcaaGreatDoor.Fr

namespace Go.Proofs.YtikiimlmoalbcaaGreatDoor.Fr
open Go.RowKit
def ZeroS (w : World) (e : Ending) (w' : World) : Prop := e = .returned (.tuple #[.agg #[.bool false, .slice none 0 0, .bool false, .slice none 0 0], .bool false]) ∧ Below w.heap.size w w'
end Go.Proofs.YtikiimlmoalbcaaGreatDoor.Fr

namespace Go.Proofs.YtikiimlmoalbcaaGreatDoor.Fr
open Go.RowKit
def ScoreA (w : World) (n d : Nat) (e : Ending) (w' : World) : Prop :=
  ∃ (s1 s2 ok : Bool) (a b : Option Addr) (c k l1 l2 : Nat), e = .returned (.tuple #[.agg #[.bool s1, .slice a l1 c, .bool s2, .slice b l2 k], .bool ok]) ∧ Below w.heap.size w w' ∧
    (0 < n → s1 = false ∧ s2 = false ∧ ok = true ∧ l1 = (dig (n / Nat.gcd n d)).length ∧ l2 = (dig (d / Nat.gcd n d)).length ∧ NewF w.heap.size w' a c b k (n / Nat.gcd n d) (d / Nat.gcd n d)) ∧ (n = 0 → l1 = 0)
end Go.Proofs.YtikiimlmoalbcaaGreatDoor.Fr

namespace Go.Proofs.YtikiimlmoalbcaaGreatDoor.Fr
open Go.RowKit
def PosP (w : World) (n d : Nat) (e : Ending) (w' : World) : Prop :=
  ∃ (s1 s2 : Bool) (a b : Option Addr) (c k l1 l2 : Nat), e = .returned (.tuple #[.agg #[.bool s1, .slice a l1 c, .bool s2, .slice b l2 k], .bool (decide (0 < n))]) ∧ Below w.heap.size w w' ∧
    (0 < n → s1 = false ∧ s2 = false ∧ l1 = (dig (n / Nat.gcd n d)).length ∧ l2 = (dig (d / Nat.gcd n d)).length ∧ NewF w.heap.size w' a c b k (n / Nat.gcd n d) (d / Nat.gcd n d))
end Go.Proofs.YtikiimlmoalbcaaGreatDoor.Fr

namespace Go.Proofs.YtikiimlmoalbcaaGreatDoor
open Go.RowKit
theorem SrcBox_below {w W : World} {sb : Nat} {ev vv lv qv ls lo fv : Value} {r : Nat} (h : SrcBox w sb ev vv lv qv ls r lo fv) (hb : Below w.heap.size w W) : SrcBox W sb ev vv lv qv ls r lo fv := BoxN.below h hb (BoxN.lt h)
def HitP (w : World) (ta ca : Int) (n d : Nat) (e : Ending) (w' : World) : Prop :=
  ∃ (s1 s2 : Bool) (a b : Option Addr) (c1 k1 l1 l2 : Nat), e = .returned (.tuple #[.agg #[.int .i64 ta, .int .i64 ca, .bool s1, .slice a l1 c1, .bool s2, .slice b l2 k1], .bool (decide (0 < n))]) ∧ Below w.heap.size w w' ∧
    (0 < n → s1 = false ∧ s2 = false ∧ l1 = (Fr.dig (n / Nat.gcd n d)).length ∧ l2 = (Fr.dig (d / Nat.gcd n d)).length ∧ Fr.NewF w.heap.size w' a c1 b k1 (n / Nat.gcd n d) (d / Nat.gcd n d))
set_option maxRecDepth 100000 in
set_option maxHeartbeats 8000000 in
theorem src_hit (cs : List Cv) (vv lv qv ls lo fv : Value) (ea : Option Addr) (E ec r sb c n d : Nat) (S : Nat → Prop) (w : World) (hx : InK 3 w S (.slice ea E ec) E (entF (entsOf cs))) (hE : cs.length = E) (hS : ∀ k, S k → k < w.heap.size)
  (hb : SrcBox w sb (.slice ea E ec) vv lv qv ls r lo (fv)) (hc : c < E)
  (hp : ∀ W, Below w.heap.size w W → Calls Tryz.prog 143 #[fv, .int .i64 (n : Int), .int .i64 ((sizeC cs c : Nat) : Int)] W (Fr.PosP W n d)) :
  Calls Tryz.prog 108 #[.pointer (some ⟨sb, 0, none⟩), .int .i64 (c : Int), .int .i64 (n : Int)] w (HitP w (cs.getD c Cv.z).1.1 ((cs.getD c Cv.z).1.2 : Int) n d) := by
 obtain ⟨ea', ec', e9, hec, hem, her⟩ := hx
 obtain ⟨rfl, -, rfl⟩ := Value.slice.inj e9
 obtain ⟨bq, o, rfl, hbS, hcell⟩ := her (by omega)
 have hbl := hS bq hbS
 have hcl : c < cs.length := by omega
 have k0 : w.cell? ⟨bq, o + c * 3, none⟩ = some (.int .i64 (cs.getD c Cv.z).1.1) := by
  have h := hcell c hc 0 (by omega)
  rw [show entF (entsOf cs) c 0 = .int .i64 (cs.getD c Cv.z).1.1 by simp [entF, three, entsOf, List.getD, hcl]] at h
  exact h
 have k1' : w.cell? ⟨bq, o + c * 3 + 1, none⟩ = some (.int .i64 ((cs.getD c Cv.z).1.2 : Int)) := by
  have h := hcell c hc 1 (by omega)
  rw [show entF (entsOf cs) c 1 = .int .i64 ((cs.getD c Cv.z).1.2 : Int) by simp [entF, three, entsOf, List.getD, hcl]] at h
  exact h
 have k2 : w.cell? ⟨bq, o + c * 3 + 2, none⟩ = some (.int .i64 ((sizeC cs c : Nat) : Int)) := by
  have h := hcell c hc 2 (by omega)
  rw [show entF (entsOf cs) c 2 = .int .i64 ((sizeC cs c : Nat) : Int) by simp [entF, three, entsOf, sizeC, List.getD, hcl]] at h
  exact h
 have HP := hid hp
 have HSB := hid hb
 clear hcell her hp hb e9 hS hbS
 generalize (cs.getD c Cv.z).1.1 = ta at *
 generalize ((cs.getD c Cv.z).1.2 : Int) = ca at *
 generalize sizeC cs c = z at *
 clear hcl hE
 unfold maxLen at hem
 have hci : (c : Int) < (E : Int) := by omega
 have HX0 := hid ((BoxN.new w #[.int .i64 0, .int .i64 0, .bool false, .slice none 0 0, .bool false, .slice none 0 0] 53).alloc (.cells #[.int .i64 ta, .int .i64 ca, .int .i64 (z : Int)] 73))
 have hx1 := BoxN.new (w.alloc (.cells #[.int .i64 0, .int .i64 0, .bool false, .slice none 0 0, .bool false, .slice none 0 0] 53)) #[.int .i64 ta, .int .i64 ca, .int .i64 (z : Int)] 73
 rw [World.size_alloc] at hx1
 have HX1 := hid hx1
 have HB0 := hid (((Below.refl w.heap.size w).alloc (Nat.le_refl _) (.cells #[.int .i64 0, .int .i64 0, .bool false, .slice none 0 0, .bool false, .slice none 0 0] 53)).alloc (by simp) (.cells #[.int .i64 ta, .int .i64 ca, .int .i64 (z : Int)] 73))
 have hb0 := (Below.refl w.heap.size w).alloc (Nat.le_refl _) (.cells #[.int .i64 0, .int .i64 0, .bool false, .slice none 0 0, .bool false, .slice none 0 0] 53)
 have c0 : (w.alloc (.cells #[.int .i64 0, .int .i64 0, .bool false, .slice none 0 0, .bool false, .slice none 0 0] 53)).cell? ⟨sb, 0, none⟩ = some (.slice (some ⟨bq, o, none⟩) E ec) := (hb0.cell (p := ⟨sb, 0, none⟩) (BoxN.lt HSB.out)).trans (BoxN.cell HSB.out 0 rfl)
 have d0 := (hb0.cell (p := ⟨bq, o + c * 3, none⟩) hbl).trans k0
 have d1 := (hb0.cell (p := ⟨bq, o + c * 3 + 1, none⟩) hbl).trans k1'
 have d2 := (hb0.cell (p := ⟨bq, o + c * 3 + 2, none⟩) hbl).trans k2
 have hsl := BoxN.lt HSB.out
 clear hx1 hb0 k0 k1' k2
 go_enter Tryz.func108, Tryz.ntmps108
 go_upto_region 2 with fail
 clear c0 d0 d1 d2
 obtain ⟨Wq, hWq⟩ : ∃ W, W = (w.alloc (.cells #[.int .i64 0, .int .i64 0, .bool false, .slice none 0 0, .bool false, .slice none 0 0] 53)).alloc (.cells #[.int .i64 ta, .int .i64 ca, .int .i64 (z : Int)] 73) := ⟨_, rfl⟩
 have hqz : w.heap.size ≤ Wq.heap.size := by rw [hWq, World.size_alloc, World.size_alloc]; omega
 rw [← hWq] at HX0 HX1 HB0
 rw [← hWq]
 clear hWq
 have HG := hid (fun W (hW : Below Wq.heap.size Wq W) => (by
  have h1 := SrcBox_below HSB.out (HB0.out.trans (hW.mono hqz))
  have h2 := HX1.out.below hW HX1.out.lt
  exact ⟨BoxN.cell h1 7 rfl, h2.cell 2 rfl⟩ : W.cell? ⟨sb, 7, none⟩ = some (fv) ∧ W.cell? ⟨w.heap.size + 1, 2, none⟩ = some (.int .i64 (z : Int))))
 have HQ := hid (fun W (hW : Below Wq.heap.size Wq W) => HP.out W (HB0.out.trans (hW.mono hqz)))
 have HD := hid (show Below Wq.heap.size Wq Wq.drew from (Below.refl Wq.heap.size Wq).drew)
 refine wp_region_held_drew (S := fun W => W.cell? ⟨sb, 7, none⟩ = some (fv) ∧ W.cell? ⟨w.heap.size + 1, 2, none⟩ = some (.int .i64 (z : Int))) (by kernel_rfl) (HG.out _ HD.out) (fun hHeld => ?_)
 generalize Wq.drew = Wd at *
 refine wpAnyH_take (i := 0) (v := ?_) (by simp only [List.getElem?_toArray, List.getElem?_cons_zero, List.getElem?_cons_succ]; rfl) (by kernel_rfl) (by kernel_rfl) (by kernel_rfl) (by intro _ _ _ h; exact h) (Or.inl ⟨by rfl, ?_⟩) (by assumption) ?_
 rotate_left
 ·(intro w' hSw; (try dsimp only at hSw); go_simp) <;> with_reducible rfl
 try simp only [Act.put, List.setIfInBounds_toArray, List.set_cons_zero, List.set_cons_succ]
 refine wpAnyH_take (i := 1) (v := ?_) (by simp only [List.getElem?_toArray, List.getElem?_cons_zero, List.getElem?_cons_succ]; rfl) (by kernel_rfl) (by kernel_rfl) (by kernel_rfl) (by intro _ _ _ h; exact h) (Or.inl ⟨by rfl, ?_⟩) (by assumption) ?_
 rotate_left
 ·(intro w' hSw; (try dsimp only at hSw); go_simp) <;> with_reducible rfl
 try simp only [Act.put, List.setIfInBounds_toArray, List.set_cons_zero, List.set_cons_succ]
 refine wpAnyH_take (i := 2) (v := ?_) (by simp only [List.getElem?_toArray, List.getElem?_cons_zero, List.getElem?_cons_succ]; rfl) (by kernel_rfl) (by kernel_rfl) (by kernel_rfl) (by intro _ _ _ h; exact h) (Or.inl ⟨by rfl, ?_⟩) (by assumption) ?_
 rotate_left
 ·(intro w' hSw; (try dsimp only at hSw); go_simp) <;> with_reducible rfl
 try simp only [Act.put, List.setIfInBounds_toArray, List.set_cons_zero, List.set_cons_succ]
 refine wpAnyH_take (i := 3) (v := ?_) (by simp only [List.getElem?_toArray, List.getElem?_cons_zero, List.getElem?_cons_succ]; rfl) (by kernel_rfl) (by kernel_rfl) (by kernel_rfl) (by intro _ _ _ h; exact h) (Or.inl ⟨by rfl, ?_⟩) (by assumption) ?_
 rotate_left
 ·(intro w' hSw; (try dsimp only at hSw); go_simp) <;> with_reducible rfl
 try simp only [Act.put, List.setIfInBounds_toArray, List.set_cons_zero, List.set_cons_succ]
 refine wpAnyH_take (i := 4) (v := ?_) (by simp only [List.getElem?_toArray, List.getElem?_cons_zero, List.getElem?_cons_succ]; rfl) (by kernel_rfl) (by kernel_rfl) (by kernel_rfl) (by intro _ _ _ h; exact h) (Or.inl ⟨by rfl, ?_⟩) (by assumption) ?_
 rotate_left
 ·(intro w' hSw; (try dsimp only at hSw); go_simp) <;> with_reducible rfl
 try simp only [Act.put, List.setIfInBounds_toArray, List.set_cons_zero, List.set_cons_succ]
 refine wpAnyH_take (i := 5) (v := ?_) (by simp only [List.getElem?_toArray, List.getElem?_cons_zero, List.getElem?_cons_succ]; rfl) (by kernel_rfl) (by kernel_rfl) (by kernel_rfl) (by intro _ _ _ h; exact h) (Or.inl ⟨by rfl, ?_⟩) (by assumption) ?_
 rotate_left
 ·(intro w' hSw; (try dsimp only at hSw); go_simp) <;> with_reducible rfl
 try simp only [Act.put, List.setIfInBounds_toArray, List.set_cons_zero, List.set_cons_succ]
 refine wpAnyH_take (i := 6) (v := ?_) (by simp only [List.getElem?_toArray, List.getElem?_cons_zero, List.getElem?_cons_succ]; rfl) (by kernel_rfl) (by kernel_rfl) (by kernel_rfl) (by intro _ _ _ h; exact h) (Or.inl ⟨by rfl, ?_⟩) (by assumption) ?_
 rotate_left
 ·(intro w' hSw; (try dsimp only at hSw); go_simp) <;> with_reducible rfl
 try simp only [Act.put, List.setIfInBounds_toArray, List.set_cons_zero, List.set_cons_succ]
 refine wpAnyH_ready (rs := [7, 11]) (by kernel_rfl) (by simp) ?_
 refine AllReadyH.cons (by simp only [List.getElem?_toArray, List.getElem?_cons_zero, List.getElem?_cons_succ]; rfl) (fun K hK => ?_) ?_
 ·go_simp
  go_at_call 143
  go_must ((with_reducible refine (HQ.out _ HD.out).mono ?_); rintro e wc0 ⟨s1, s2, a, b, c1, k1, l1, l2, rfl, hbc, hpf⟩; have HBc0 := hid (HD.out.trans (hbc.mono HD.out.size)); have HPF := hid (fun (h : 0 < n) => (by obtain ⟨r1, r2, r3, r4, hN⟩ := hpf h; exact ⟨r1, r2, r3, r4, hN⟩ : s1 = false ∧ s2 = false ∧ l1 = (Fr.dig (n / Nat.gcd n d)).length ∧ l2 = (Fr.dig (d / Nat.gcd n d)).length ∧ Fr.NewF Wd.heap.size wc0 a c1 b k1 (n / Nat.gcd n d) (d / Nat.gcd n d))); clear hbc hpf)
  (try go_wp2_with fail)
  refine hK.out _ _ (HG.out _ HBc0.out) (fun hHeld => ?_)
  clear hK K
  try simp only [Act.put, List.setIfInBounds_toArray, List.set_cons_zero, List.set_cons_succ]
  refine wpAnyH_take (i := 8) (v := ?_) (by simp only [List.getElem?_toArray, List.getElem?_cons_zero, List.getElem?_cons_succ]; rfl) (by kernel_rfl) (by kernel_rfl) (by kernel_rfl) (by intro _ _ _ h; exact h) (Or.inl ⟨by rfl, ?_⟩) (by assumption) ?_
  rotate_left
  ·(intro w' hSw; (try dsimp only at hSw); go_simp) <;> with_reducible rfl
  try simp only [Act.put, List.setIfInBounds_toArray, List.set_cons_zero, List.set_cons_succ]
  refine wpAnyH_take (i := 9) (v := ?_) (by simp only [List.getElem?_toArray, List.getElem?_cons_zero, List.getElem?_cons_succ]; rfl) (by kernel_rfl) (by kernel_rfl) (by kernel_rfl) (by intro _ _ _ h; exact h) (Or.inl ⟨by rfl, ?_⟩) (by assumption) ?_
  rotate_left
  ·(intro w' hSw; (try dsimp only at hSw); go_simp) <;> with_reducible rfl
  try simp only [Act.put, List.setIfInBounds_toArray, List.set_cons_zero, List.set_cons_succ]
  refine wpAnyH_take (i := 10) (v := ?_) (by simp only [List.getElem?_toArray, List.getElem?_cons_zero, List.getElem?_cons_succ]; rfl) (by kernel_rfl) (by kernel_rfl) (by kernel_rfl) (by intro _ _ _ h; exact h) (Or.inl ⟨by rfl, ?_⟩) (by assumption) ?_
  rotate_left
  ·(intro w' hSw; (try dsimp only at hSw); go_simp) <;> with_reducible rfl
  try simp only [Act.put, List.setIfInBounds_toArray, List.set_cons_zero, List.set_cons_succ]
  refine wpAnyH_ready (rs := [11]) (by kernel_rfl) (by simp) ?_
  refine AllReadyH.cons (by simp only [List.getElem?_toArray, List.getElem?_cons_zero, List.getElem?_cons_succ]; rfl) (fun K hK => ?_) ?_
  ·go_simp
   have HBa1 := hid (HBc0.out.alloc HBc0.out.size (.cells #[.bool false, .slice none 0 0, .bool false, .slice none 0 0] 45))
   have HXa1 := hid (BoxN.new wc0 #[.bool false, .slice none 0 0, .bool false, .slice none 0 0] 45)
   refine hK.out _ _ (HG.out _ HBa1.out) (fun hHeld => ?_)
   clear hK K
   try simp only [Act.put, List.setIfInBounds_toArray, List.set_cons_zero, List.set_cons_succ]
   obtain ⟨Wa1, hWa1⟩ : ∃ V, V = World.alloc wc0 (.cells #[.bool false, .slice none 0 0, .bool false, .slice none 0 0] 45) := ⟨_, rfl⟩
   rw [← hWa1] at HBa1 HXa1 hHeld ⊢
   have hlo : Wq.heap.size ≤ wc0.heap.size := HBc0.out.size
   have HWA1 := hid (show Below wc0.heap.size wc0 Wa1 by rw [hWa1]; exact (Below.refl _ _).alloc (Nat.le_refl _) _)
   clear hWa1
   refine wpAnyH_ready (rs := [12]) (by kernel_rfl) (by simp) ?_
   refine AllReadyH.cons (by simp only [List.getElem?_toArray, List.getElem?_cons_zero, List.getElem?_cons_succ]; rfl) (fun K hK => ?_) AllReadyH.nil
   have e0 := HXa1.out.cell 0 rfl
   have f0 := HXa1.out.frozen 0
   have e1 := HXa1.out.cell 1 rfl
   have f1 := HXa1.out.frozen 1
   have e2 := HXa1.out.cell 2 rfl
   have f2 := HXa1.out.frozen 2
   have e3 := HXa1.out.cell 3 rfl
   have f3 := HXa1.out.frozen 3
   go_simp
   have g0 : BoxN _ wc0.heap.size 45 #[.bool s1, .slice none 0 0, .bool false, .slice none 0 0] := HXa1.out.set 0 (.bool s1)
   have h0 := HBa1.out.setCell (p := ⟨wc0.heap.size, 0, none⟩) hlo (.bool s1)
   have g1 : BoxN _ wc0.heap.size 45 #[.bool s1, .slice a l1 c1, .bool false, .slice none 0 0] := g0.set 1 (.slice a l1 c1)
   have h1 := h0.setCell (p := ⟨wc0.heap.size, 1, none⟩) hlo (.slice a l1 c1)
   have g2 : BoxN _ wc0.heap.size 45 #[.bool s1, .slice a l1 c1, .bool s2, .slice none 0 0] := g1.set 2 (.bool s2)
   have h2 := h1.setCell (p := ⟨wc0.heap.size, 2, none⟩) hlo (.bool s2)
   have g3 : BoxN _ wc0.heap.size 45 #[.bool s1, .slice a l1 c1, .bool s2, .slice b l2 k1] := g2.set 3 (.slice b l2 k1)
   have h3 := h2.setCell (p := ⟨wc0.heap.size, 3, none⟩) hlo (.slice b l2 k1)
   have hbc := (((HWA1.out.setCell (p := ⟨wc0.heap.size, 0, none⟩) (Nat.le_refl _) (.bool s1)).setCell (p := ⟨wc0.heap.size, 1, none⟩) (Nat.le_refl _) (.slice a l1 c1)).setCell (p := ⟨wc0.heap.size, 2, none⟩) (Nat.le_refl _) (.bool s2)).setCell (p := ⟨wc0.heap.size, 3, none⟩) (Nat.le_refl _) (.slice b l2 k1)
   have HPZ := hid (fun (h : 0 < n) => (by obtain ⟨r1, r2, r3, r4, hN⟩ := HPF.out h; exact ⟨r1, r2, r3, r4, (hN.kept hbc).mono (by have := HD.out.size; omega)⟩ : s1 = false ∧ s2 = false ∧ l1 = (Fr.dig (n / Nat.gcd n d)).length ∧ l2 = (Fr.dig (d / Nat.gcd n d)).length ∧ Fr.NewF Wq.heap.size ((((Wa1.setCell ⟨wc0.heap.size, 0, none⟩ (.bool s1)).setCell ⟨wc0.heap.size, 1, none⟩ (.slice a l1 c1)).setCell ⟨wc0.heap.size, 2, none⟩ (.bool s2)).setCell ⟨wc0.heap.size, 3, none⟩ (.slice b l2 k1)) a c1 b k1 (n / Nat.gcd n d) (d / Nat.gcd n d)))
   clear hbc
   have HGX := hid g3
   have HHX := hid h3
   clear g0 h0 e0 f0 g1 h1 e1 f1 g2 h2 e2 f2 g3 h3 e3 f3
   refine hK.out _ _ (HG.out _ HHX.out) (fun hHeld => ?_)
   clear hK K
   try simp only [Act.put, List.setIfInBounds_toArray, List.set_cons_zero, List.set_cons_succ]
   refine wpAnyH_take (i := 13) (v := ?_) (by simp only [List.getElem?_toArray, List.getElem?_cons_zero, List.getElem?_cons_succ]; rfl) (by kernel_rfl) (by kernel_rfl) (by kernel_rfl) (by intro _ _ _ h; exact h) (Or.inl ⟨by rfl, ?_⟩) (by assumption) ?_
   rotate_left
   ·(intro w' hSw; (try dsimp only at hSw); go_simp) <;> with_reducible rfl
   try simp only [Act.put, List.setIfInBounds_toArray, List.set_cons_zero, List.set_cons_succ]
   refine wpAnyH_done (by kernel_rfl) ?_ _
   obtain ⟨V, hV⟩ : ∃ V, V = ((((Wa1.setCell ⟨wc0.heap.size, 0, none⟩ (.bool s1)).setCell ⟨wc0.heap.size, 1, none⟩ (.slice a l1 c1)).setCell ⟨wc0.heap.size, 2, none⟩ (.bool s2)).setCell ⟨wc0.heap.size, 3, none⟩ (.slice b l2 k1)) := ⟨_, rfl⟩
   rw [← hV] at HPZ HGX HHX ⊢
   clear hV
   have HBV := hid (HB0.out.trans (HHX.out.mono hqz))
   have hx0 := HX0.out.below HHX.out HX0.out.lt
   have hx1 := HX1.out.below HHX.out HX1.out.lt
   have u0 := hx1.cell 0 rfl
   have u1 := hx1.cell 1 rfl
   have v0 := HGX.out.cell 0 rfl
   have v1 := HGX.out.cell 1 rfl
   have v2 := HGX.out.cell 2 rfl
   have v3 := HGX.out.cell 3 rfl
   have x0 := hx0.cell 0 rfl
   have y0 := hx0.frozen 0
   have x1 := hx0.cell 1 rfl
   have y1 := hx0.frozen 1
   have x2 := hx0.cell 2 rfl
   have y2 := hx0.frozen 2
   have x3 := hx0.cell 3 rfl
   have y3 := hx0.frozen 3
   have x4 := hx0.cell 4 rfl
   have y4 := hx0.frozen 4
   have x5 := hx0.cell 5 rfl
   have y5 := hx0.frozen 5
   have g0 : BoxN (V.setCell ⟨w.heap.size, 0, none⟩ (.int .i64 ta)) w.heap.size 53 #[.int .i64 ta, .int .i64 0, .bool false, .slice none 0 0, .bool false, .slice none 0 0] := hx0.set 0 (.int .i64 ta)
   have g1 : BoxN ((V.setCell ⟨w.heap.size, 0, none⟩ (.int .i64 ta)).setCell ⟨w.heap.size, 1, none⟩ (.int .i64 ca)) w.heap.size 53 #[.int .i64 ta, .int .i64 ca, .bool false, .slice none 0 0, .bool false, .slice none 0 0] := g0.set 1 (.int .i64 ca)
   have g2 : BoxN (((V.setCell ⟨w.heap.size, 0, none⟩ (.int .i64 ta)).setCell ⟨w.heap.size, 1, none⟩ (.int .i64 ca)).setCell ⟨w.heap.size, 2, none⟩ (.bool s1)) w.heap.size 53 #[.int .i64 ta, .int .i64 ca, .bool s1, .slice none 0 0, .bool false, .slice none 0 0] := g1.set 2 (.bool s1)
   have g3 : BoxN ((((V.setCell ⟨w.heap.size, 0, none⟩ (.int .i64 ta)).setCell ⟨w.heap.size, 1, none⟩ (.int .i64 ca)).setCell ⟨w.heap.size, 2, none⟩ (.bool s1)).setCell ⟨w.heap.size, 3, none⟩ (.slice a l1 c1)) w.heap.size 53 #[.int .i64 ta, .int .i64 ca, .bool s1, .slice a l1 c1, .bool false, .slice none 0 0] := g2.set 3 (.slice a l1 c1)
   have g4 : BoxN (((((V.setCell ⟨w.heap.size, 0, none⟩ (.int .i64 ta)).setCell ⟨w.heap.size, 1, none⟩ (.int .i64 ca)).setCell ⟨w.heap.size, 2, none⟩ (.bool s1)).setCell ⟨w.heap.size, 3, none⟩ (.slice a l1 c1)).setCell ⟨w.heap.size, 4, none⟩ (.bool s2)) w.heap.size 53 #[.int .i64 ta, .int .i64 ca, .bool s1, .slice a l1 c1, .bool s2, .slice none 0 0] := g3.set 4 (.bool s2)
   have g5 : BoxN ((((((V.setCell ⟨w.heap.size, 0, none⟩ (.int .i64 ta)).setCell ⟨w.heap.size, 1, none⟩ (.int .i64 ca)).setCell ⟨w.heap.size, 2, none⟩ (.bool s1)).setCell ⟨w.heap.size, 3, none⟩ (.slice a l1 c1)).setCell ⟨w.heap.size, 4, none⟩ (.bool s2)).setCell ⟨w.heap.size, 5, none⟩ (.slice b l2 k1)) w.heap.size 53 #[.int .i64 ta, .int .i64 ca, .bool s1, .slice a l1 c1, .bool s2, .slice b l2 k1] := g4.set 5 (.slice b l2 k1)
   have HEND := hid (((((((HBV.out.setCell (p := ⟨w.heap.size, 0, none⟩) (Nat.le_refl _) (.int .i64 ta)).setCell (p := ⟨w.heap.size, 1, none⟩) (Nat.le_refl _) (.int .i64 ca)).setCell (p := ⟨w.heap.size, 2, none⟩) (Nat.le_refl _) (.bool s1)).setCell (p := ⟨w.heap.size, 3, none⟩) (Nat.le_refl _) (.slice a l1 c1)).setCell (p := ⟨w.heap.size, 4, none⟩) (Nat.le_refl _) (.bool s2)).setCell (p := ⟨w.heap.size, 5, none⟩) (Nat.le_refl _) (.slice b l2 k1)))
   have hr0 : w.heap.size < Wq.heap.size := HX0.out.lt
   have HPZ2 := hid (fun (h : 0 < n) => (by obtain ⟨r1, r2, r3, r4, hN⟩ := HPZ.out h; exact ⟨r1, r2, r3, r4, (((((hN.setCell (x := ⟨w.heap.size, 0, none⟩) hr0).setCell (x := ⟨w.heap.size, 1, none⟩) hr0).setCell (x := ⟨w.heap.size, 2, none⟩) hr0).setCell (x := ⟨w.heap.size, 3, none⟩) hr0).setCell (x := ⟨w.heap.size, 4, none⟩) hr0).setCell (x := ⟨w.heap.size, 5, none⟩) hr0 |>.mono hqz⟩ : s1 = false ∧ s2 = false ∧ l1 = (Fr.dig (n / Nat.gcd n d)).length ∧ l2 = (Fr.dig (d / Nat.gcd n d)).length ∧ Fr.NewF w.heap.size ((((((V.setCell ⟨w.heap.size, 0, none⟩ (.int .i64 ta)).setCell ⟨w.heap.size, 1, none⟩ (.int .i64 ca)).setCell ⟨w.heap.size, 2, none⟩ (.bool s1)).setCell ⟨w.heap.size, 3, none⟩ (.slice a l1 c1)).setCell ⟨w.heap.size, 4, none⟩ (.bool s2)).setCell ⟨w.heap.size, 5, none⟩ (.slice b l2 k1)) a c1 b k1 (n / Nat.gcd n d) (d / Nat.gcd n d)))
   have HRES : Hid (HitP w ta ca n d (.returned (.tuple #[.agg #[.int .i64 ta, .int .i64 ca, .bool s1, .slice a l1 c1, .bool s2, .slice b l2 k1], .bool (decide (0 < n))])) ((((((V.setCell ⟨w.heap.size, 0, none⟩ (.int .i64 ta)).setCell ⟨w.heap.size, 1, none⟩ (.int .i64 ca)).setCell ⟨w.heap.size, 2, none⟩ (.bool s1)).setCell ⟨w.heap.size, 3, none⟩ (.slice a l1 c1)).setCell ⟨w.heap.size, 4, none⟩ (.bool s2)).setCell ⟨w.heap.size, 5, none⟩ (.slice b l2 k1))) := hid ⟨s1, s2, a, b, c1, k1, l1, l2, rfl, HEND.out, fun h => (by obtain ⟨r1, r2, r3, r4, hN⟩ := HPZ2.out h; exact ⟨r1, r2, r3, r4, hN⟩)⟩
   have z0 := g5.cell 0 rfl
   have z1 := g5.cell 1 rfl
   have z2 := g5.cell 2 rfl
   have z3 := g5.cell 3 rfl
   have z4 := g5.cell 4 rfl
   have z5 := g5.cell 5 rfl
   clear g0 g1 g2 g3 g4 g5 hx0 hx1 HPZ HPZ2 HEND
   go_wp2
   refine bodyPost_ret (v := .tuple #[.agg #[.int .i64 ta, .int .i64 ca, .bool s1, .slice a l1 c1, .bool s2, .slice b l2 k1], .bool (decide (0 < n))]) (by simp [results, Tryz.results108, go_sem, z0, z1, z2, z3, z4, z5]) rfl HRES.out
  exact AllReadyH.nil
 refine AllReadyH.cons (by simp only [List.getElem?_toArray, List.getElem?_cons_zero, List.getElem?_cons_succ]; rfl) (fun K hK => ?_) ?_
 ·go_simp
  have HBa0 := hid (HD.out.alloc HD.out.size (.cells #[.bool false, .slice none 0 0, .bool false, .slice none 0 0] 45))
  have HXa0 := hid (BoxN.new Wd #[.bool false, .slice none 0 0, .bool false, .slice none 0 0] 45)
  refine hK.out _ _ (HG.out _ HBa0.out) (fun hHeld => ?_)
  clear hK K
  try simp only [Act.put, List.setIfInBounds_toArray, List.set_cons_zero, List.set_cons_succ]
  obtain ⟨Wa0, hWa0⟩ : ∃ V, V = World.alloc Wd (.cells #[.bool false, .slice none 0 0, .bool false, .slice none 0 0] 45) := ⟨_, rfl⟩
  rw [← hWa0] at HBa0 HXa0 hHeld ⊢
  have hlo : Wq.heap.size ≤ Wd.heap.size := HD.out.size
  have HWA0 := hid (show Below Wd.heap.size Wd Wa0 by rw [hWa0]; exact (Below.refl _ _).alloc (Nat.le_refl _) _)
  clear hWa0
  refine wpAnyH_ready (rs := [7]) (by kernel_rfl) (by simp) ?_
  refine AllReadyH.cons (by simp only [List.getElem?_toArray, List.getElem?_cons_zero, List.getElem?_cons_succ]; rfl) (fun K hK => ?_) ?_
  ·go_simp
   go_at_call 143
   go_must ((with_reducible refine (HQ.out _ HBa0.out).mono ?_); rintro e wc1 ⟨s1, s2, a, b, c1, k1, l1, l2, rfl, hbc, hpf⟩; have HBc1 := hid (HBa0.out.trans (hbc.mono HBa0.out.size)); have HPF := hid (fun (h : 0 < n) => (by obtain ⟨r1, r2, r3, r4, hN⟩ := hpf h; exact ⟨r1, r2, r3, r4, hN⟩ : s1 = false ∧ s2 = false ∧ l1 = (Fr.dig (n / Nat.gcd n d)).length ∧ l2 = (Fr.dig (d / Nat.gcd n d)).length ∧ Fr.NewF Wa0.heap.size wc1 a c1 b k1 (n / Nat.gcd n d) (d / Nat.gcd n d))); have HXc1 := hid (HXa0.out.below hbc HXa0.out.lt); clear hbc hpf)
   (try go_wp2_with fail)
   refine hK.out _ _ (HG.out _ HBc1.out) (fun hHeld => ?_)
   clear hK K
   try simp only [Act.put, List.setIfInBounds_toArray, List.set_cons_zero, List.set_cons_succ]
   refine wpAnyH_take (i := 8) (v := ?_) (by simp only [List.getElem?_toArray, List.getElem?_cons_zero, List.getElem?_cons_succ]; rfl) (by kernel_rfl) (by kernel_rfl) (by kernel_rfl) (by intro _ _ _ h; exact h) (Or.inl ⟨by rfl, ?_⟩) (by assumption) ?_
   rotate_left
   ·(intro w' hSw; (try dsimp only at hSw); go_simp) <;> with_reducible rfl
   try simp only [Act.put, List.setIfInBounds_toArray, List.set_cons_zero, List.set_cons_succ]
   refine wpAnyH_take (i := 9) (v := ?_) (by simp only [List.getElem?_toArray, List.getElem?_cons_zero, List.getElem?_cons_succ]; rfl) (by kernel_rfl) (by kernel_rfl) (by kernel_rfl) (by intro _ _ _ h; exact h) (Or.inl ⟨by rfl, ?_⟩) (by assumption) ?_
   rotate_left
   ·(intro w' hSw; (try dsimp only at hSw); go_simp) <;> with_reducible rfl
   try simp only [Act.put, List.setIfInBounds_toArray, List.set_cons_zero, List.set_cons_succ]
   refine wpAnyH_take (i := 10) (v := ?_) (by simp only [List.getElem?_toArray, List.getElem?_cons_zero, List.getElem?_cons_succ]; rfl) (by kernel_rfl) (by kernel_rfl) (by kernel_rfl) (by intro _ _ _ h; exact h) (Or.inl ⟨by rfl, ?_⟩) (by assumption) ?_
   rotate_left
   ·(intro w' hSw; (try dsimp only at hSw); go_simp) <;> with_reducible rfl
   try simp only [Act.put, List.setIfInBounds_toArray, List.set_cons_zero, List.set_cons_succ]
   refine wpAnyH_ready (rs := [12]) (by kernel_rfl) (by simp) ?_
   refine AllReadyH.cons (by simp only [List.getElem?_toArray, List.getElem?_cons_zero, List.getElem?_cons_succ]; rfl) (fun K hK => ?_) AllReadyH.nil
   have e0 := HXc1.out.cell 0 rfl
   have f0 := HXc1.out.frozen 0
   have e1 := HXc1.out.cell 1 rfl
   have f1 := HXc1.out.frozen 1
   have e2 := HXc1.out.cell 2 rfl
   have f2 := HXc1.out.frozen 2
   have e3 := HXc1.out.cell 3 rfl
   have f3 := HXc1.out.frozen 3
   go_simp
   have g0 : BoxN _ Wd.heap.size 45 #[.bool s1, .slice none 0 0, .bool false, .slice none 0 0] := HXc1.out.set 0 (.bool s1)
   have h0 := HBc1.out.setCell (p := ⟨Wd.heap.size, 0, none⟩) hlo (.bool s1)
   have g1 : BoxN _ Wd.heap.size 45 #[.bool s1, .slice a l1 c1, .bool false, .slice none 0 0] := g0.set 1 (.slice a l1 c1)
   have h1 := h0.setCell (p := ⟨Wd.heap.size, 1, none⟩) hlo (.slice a l1 c1)
   have g2 : BoxN _ Wd.heap.size 45 #[.bool s1, .slice a l1 c1, .bool s2, .slice none 0 0] := g1.set 2 (.bool s2)
   have h2 := h1.setCell (p := ⟨Wd.heap.size, 2, none⟩) hlo (.bool s2)
   have g3 : BoxN _ Wd.heap.size 45 #[.bool s1, .slice a l1 c1, .bool s2, .slice b l2 k1] := g2.set 3 (.slice b l2 k1)
   have h3 := h2.setCell (p := ⟨Wd.heap.size, 3, none⟩) hlo (.slice b l2 k1)
   have hrl : Wd.heap.size < Wa0.heap.size := HXa0.out.lt
   have HPZ := hid (fun (h : 0 < n) => (by obtain ⟨r1, r2, r3, r4, hN⟩ := HPF.out h; exact ⟨r1, r2, r3, r4, ((((hN.setCell (x := ⟨Wd.heap.size, 0, none⟩) hrl).setCell (x := ⟨Wd.heap.size, 1, none⟩) hrl).setCell (x := ⟨Wd.heap.size, 2, none⟩) hrl).setCell (x := ⟨Wd.heap.size, 3, none⟩) hrl).mono (by have := HBa0.out.size; omega)⟩ : s1 = false ∧ s2 = false ∧ l1 = (Fr.dig (n / Nat.gcd n d)).length ∧ l2 = (Fr.dig (d / Nat.gcd n d)).length ∧ Fr.NewF Wq.heap.size ((((wc1.setCell ⟨Wd.heap.size, 0, none⟩ (.bool s1)).setCell ⟨Wd.heap.size, 1, none⟩ (.slice a l1 c1)).setCell ⟨Wd.heap.size, 2, none⟩ (.bool s2)).setCell ⟨Wd.heap.size, 3, none⟩ (.slice b l2 k1)) a c1 b k1 (n / Nat.gcd n d) (d / Nat.gcd n d)))
   have HGX := hid g3
   have HHX := hid h3
   clear g0 h0 e0 f0 g1 h1 e1 f1 g2 h2 e2 f2 g3 h3 e3 f3
   refine hK.out _ _ (HG.out _ HHX.out) (fun hHeld => ?_)
   clear hK K
   try simp only [Act.put, List.setIfInBounds_toArray, List.set_cons_zero, List.set_cons_succ]
   refine wpAnyH_take (i := 13) (v := ?_) (by simp only [List.getElem?_toArray, List.getElem?_cons_zero, List.getElem?_cons_succ]; rfl) (by kernel_rfl) (by kernel_rfl) (by kernel_rfl) (by intro _ _ _ h; exact h) (Or.inl ⟨by rfl, ?_⟩) (by assumption) ?_
   rotate_left
   ·(intro w' hSw; (try dsimp only at hSw); go_simp) <;> with_reducible rfl
   try simp only [Act.put, List.setIfInBounds_toArray, List.set_cons_zero, List.set_cons_succ]
   refine wpAnyH_done (by kernel_rfl) ?_ _
   obtain ⟨V, hV⟩ : ∃ V, V = ((((wc1.setCell ⟨Wd.heap.size, 0, none⟩ (.bool s1)).setCell ⟨Wd.heap.size, 1, none⟩ (.slice a l1 c1)).setCell ⟨Wd.heap.size, 2, none⟩ (.bool s2)).setCell ⟨Wd.heap.size, 3, none⟩ (.slice b l2 k1)) := ⟨_, rfl⟩
   rw [← hV] at HPZ HGX HHX ⊢
   clear hV
   have HBV := hid (HB0.out.trans (HHX.out.mono hqz))
   have hx0 := HX0.out.below HHX.out HX0.out.lt
   have hx1 := HX1.out.below HHX.out HX1.out.lt
   have u0 := hx1.cell 0 rfl
   have u1 := hx1.cell 1 rfl
   have v0 := HGX.out.cell 0 rfl
   have v1 := HGX.out.cell 1 rfl
   have v2 := HGX.out.cell 2 rfl
   have v3 := HGX.out.cell 3 rfl
   have x0 := hx0.cell 0 rfl
   have y0 := hx0.frozen 0
   have x1 := hx0.cell 1 rfl
   have y1 := hx0.frozen 1
   have x2 := hx0.cell 2 rfl
   have y2 := hx0.frozen 2
   have x3 := hx0.cell 3 rfl
   have y3 := hx0.frozen 3
   have x4 := hx0.cell 4 rfl
   have y4 := hx0.frozen 4
   have x5 := hx0.cell 5 rfl
   have y5 := hx0.frozen 5
   have g0 : BoxN (V.setCell ⟨w.heap.size, 0, none⟩ (.int .i64 ta)) w.heap.size 53 #[.int .i64 ta, .int .i64 0, .bool false, .slice none 0 0, .bool false, .slice none 0 0] := hx0.set 0 (.int .i64 ta)
   have g1 : BoxN ((V.setCell ⟨w.heap.size, 0, none⟩ (.int .i64 ta)).setCell ⟨w.heap.size, 1, none⟩ (.int .i64 ca)) w.heap.size 53 #[.int .i64 ta, .int .i64 ca, .bool false, .slice none 0 0, .bool false, .slice none 0 0] := g0.set 1 (.int .i64 ca)
   have g2 : BoxN (((V.setCell ⟨w.heap.size, 0, none⟩ (.int .i64 ta)).setCell ⟨w.heap.size, 1, none⟩ (.int .i64 ca)).setCell ⟨w.heap.size, 2, none⟩ (.bool s1)) w.heap.size 53 #[.int .i64 ta, .int .i64 ca, .bool s1, .slice none 0 0, .bool false, .slice none 0 0] := g1.set 2 (.bool s1)
   have g3 : BoxN ((((V.setCell ⟨w.heap.size, 0, none⟩ (.int .i64 ta)).setCell ⟨w.heap.size, 1, none⟩ (.int .i64 ca)).setCell ⟨w.heap.size, 2, none⟩ (.bool s1)).setCell ⟨w.heap.size, 3, none⟩ (.slice a l1 c1)) w.heap.size 53 #[.int .i64 ta, .int .i64 ca, .bool s1, .slice a l1 c1, .bool false, .slice none 0 0] := g2.set 3 (.slice a l1 c1)
   have g4 : BoxN (((((V.setCell ⟨w.heap.size, 0, none⟩ (.int .i64 ta)).setCell ⟨w.heap.size, 1, none⟩ (.int .i64 ca)).setCell ⟨w.heap.size, 2, none⟩ (.bool s1)).setCell ⟨w.heap.size, 3, none⟩ (.slice a l1 c1)).setCell ⟨w.heap.size, 4, none⟩ (.bool s2)) w.heap.size 53 #[.int .i64 ta, .int .i64 ca, .bool s1, .slice a l1 c1, .bool s2, .slice none 0 0] := g3.set 4 (.bool s2)
   have g5 : BoxN ((((((V.setCell ⟨w.heap.size, 0, none⟩ (.int .i64 ta)).setCell ⟨w.heap.size, 1, none⟩ (.int .i64 ca)).setCell ⟨w.heap.size, 2, none⟩ (.bool s1)).setCell ⟨w.heap.size, 3, none⟩ (.slice a l1 c1)).setCell ⟨w.heap.size, 4, none⟩ (.bool s2)).setCell ⟨w.heap.size, 5, none⟩ (.slice b l2 k1)) w.heap.size 53 #[.int .i64 ta, .int .i64 ca, .bool s1, .slice a l1 c1, .bool s2, .slice b l2 k1] := g4.set 5 (.slice b l2 k1)
   have HEND := hid (((((((HBV.out.setCell (p := ⟨w.heap.size, 0, none⟩) (Nat.le_refl _) (.int .i64 ta)).setCell (p := ⟨w.heap.size, 1, none⟩) (Nat.le_refl _) (.int .i64 ca)).setCell (p := ⟨w.heap.size, 2, none⟩) (Nat.le_refl _) (.bool s1)).setCell (p := ⟨w.heap.size, 3, none⟩) (Nat.le_refl _) (.slice a l1 c1)).setCell (p := ⟨w.heap.size, 4, none⟩) (Nat.le_refl _) (.bool s2)).setCell (p := ⟨w.heap.size, 5, none⟩) (Nat.le_refl _) (.slice b l2 k1)))
   have hr0 : w.heap.size < Wq.heap.size := HX0.out.lt
   have HPZ2 := hid (fun (h : 0 < n) => (by obtain ⟨r1, r2, r3, r4, hN⟩ := HPZ.out h; exact ⟨r1, r2, r3, r4, (((((hN.setCell (x := ⟨w.heap.size, 0, none⟩) hr0).setCell (x := ⟨w.heap.size, 1, none⟩) hr0).setCell (x := ⟨w.heap.size, 2, none⟩) hr0).setCell (x := ⟨w.heap.size, 3, none⟩) hr0).setCell (x := ⟨w.heap.size, 4, none⟩) hr0).setCell (x := ⟨w.heap.size, 5, none⟩) hr0 |>.mono hqz⟩ : s1 = false ∧ s2 = false ∧ l1 = (Fr.dig (n / Nat.gcd n d)).length ∧ l2 = (Fr.dig (d / Nat.gcd n d)).length ∧ Fr.NewF w.heap.size ((((((V.setCell ⟨w.heap.size, 0, none⟩ (.int .i64 ta)).setCell ⟨w.heap.size, 1, none⟩ (.int .i64 ca)).setCell ⟨w.heap.size, 2, none⟩ (.bool s1)).setCell ⟨w.heap.size, 3, none⟩ (.slice a l1 c1)).setCell ⟨w.heap.size, 4, none⟩ (.bool s2)).setCell ⟨w.heap.size, 5, none⟩ (.slice b l2 k1)) a c1 b k1 (n / Nat.gcd n d) (d / Nat.gcd n d)))
   have HRES : Hid (HitP w ta ca n d (.returned (.tuple #[.agg #[.int .i64 ta, .int .i64 ca, .bool s1, .slice a l1 c1, .bool s2, .slice b l2 k1], .bool (decide (0 < n))])) ((((((V.setCell ⟨w.heap.size, 0, none⟩ (.int .i64 ta)).setCell ⟨w.heap.size, 1, none⟩ (.int .i64 ca)).setCell ⟨w.heap.size, 2, none⟩ (.bool s1)).setCell ⟨w.heap.size, 3, none⟩ (.slice a l1 c1)).setCell ⟨w.heap.size, 4, none⟩ (.bool s2)).setCell ⟨w.heap.size, 5, none⟩ (.slice b l2 k1))) := hid ⟨s1, s2, a, b, c1, k1, l1, l2, rfl, HEND.out, fun h => (by obtain ⟨r1, r2, r3, r4, hN⟩ := HPZ2.out h; exact ⟨r1, r2, r3, r4, hN⟩)⟩
   have z0 := g5.cell 0 rfl
   have z1 := g5.cell 1 rfl
   have z2 := g5.cell 2 rfl
   have z3 := g5.cell 3 rfl
   have z4 := g5.cell 4 rfl
   have z5 := g5.cell 5 rfl
   clear g0 g1 g2 g3 g4 g5 hx0 hx1 HPZ HPZ2 HEND
   go_wp2
   refine bodyPost_ret (v := .tuple #[.agg #[.int .i64 ta, .int .i64 ca, .bool s1, .slice a l1 c1, .bool s2, .slice b l2 k1], .bool (decide (0 < n))]) (by simp [results, Tryz.results108, go_sem, z0, z1, z2, z3, z4, z5]) rfl HRES.out
  exact AllReadyH.nil
 exact AllReadyH.nil
end Go.Proofs.YtikiimlmoalbcaaGreatDoor
