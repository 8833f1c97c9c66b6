/- Contract of posting.Same at equal indices. Contract of posting.Add at a reference that is in the index: the code of what is there already. -/
import Derived.Test.YtabemneoobbnaaaGreatDoorOg
import Derived.Test.YtabemneoobbnaaaGreatDoorOh
namespace Go.Proofs.YtabemneoobbnaaaGreatDoor
open Go.RowKit

set_option maxHeartbeats 1000000 in
theorem equal_ints (va vb : Value) (xs : List Nat) (S T : Nat → Prop) (w : World) (ha : InN w S va xs) (hb : InN w T vb xs) :
    Calls Tryz.prog 73 #[va, vb] w (Quiet w (.bool true)) := by
  obtain ⟨a, c, rfl, hc, hm, hx⟩ := ha
  obtain ⟨b, d, rfl, hd, hn, hy⟩ := hb
  have HX := hid hx
  have HY := hid hy
  clear hx hy
  generalize hxl : xs.length = n at *
  clear hxl
  unfold maxLen at hm hn
  have hnn : ((n : Int) != (n : Int)) = false := by simp
  go_enter Tryz.func73, Tryz.ntmps73
  go_wp2
  go_loopw [13] (fun i w' => ∃ k : Nat, k ≤ n ∧ i = .int .i64 (k : Int) ∧ ∃ m, w' = w.drewN m) (fun i _ => n - (intOf i).toNat)
  case atStart => exact ⟨0, by omega, rfl, 0, rfl⟩
  case round =>
    obtain ⟨k, hk, rfl, m, rfl⟩ := hrel
    by_cases hlt : k < n
    · obtain ⟨b1, o1, rfl, hb1, hc1⟩ := HX.out (by omega)
      obtain ⟨b2, o2, rfl, hb2, hc2⟩ := HY.out (by omega)
      have p0 : w.cell? ⟨b1, o1 + k, none⟩ = some (.int .i64 ((xs.getD k 0 : Nat) : Int)) := by have h := hc1 k hlt 0 (by omega); simp only [Nat.mul_one, Nat.add_zero] at h; exact h
      have q0 : w.cell? ⟨b2, o2 + k, none⟩ = some (.int .i64 ((xs.getD k 0 : Nat) : Int)) := by have h := hc2 k hlt 0 (by omega); simp only [Nat.mul_one, Nat.add_zero] at h; exact h
      have HW : Hid (wrap64 ((k : Int) + 1) = (k : Int) + 1) := hid (by unfold wrap64; omega)
      clear hc1 hc2
      generalize ((xs.getD k 0 : Nat) : Int) = x at *
      have h1 : (x == x) = true := by simp
      have h2 : (x != x) = false := by simp
      go_wp2
      go_quiet (fail)
      go_wp2
      go_roundw
      case rel => exact ⟨k + 1, by omega, by go_num, _, rfl⟩
      case measure => simp [intOf, HW.out]; omega
    · obtain rfl : k = n := by omega
      go_wp2
      go_ret
      exact ⟨rfl, _, rfl⟩

set_option maxHeartbeats 1000000 in
theorem equal_strs (va vb : Value) (xs : List ByteArray) (S T : Nat → Prop) (w : World) (ha : InS w S va xs) (hb : InS w T vb xs) :
    Calls Tryz.prog 71 #[va, vb] w (Quiet w (.bool true)) := by
  obtain ⟨a, c, rfl, hc, hm, hx⟩ := ha
  obtain ⟨b, d, rfl, hd, hn, hy⟩ := hb
  have HX := hid hx
  have HY := hid hy
  clear hx hy
  generalize hxl : xs.length = n at *
  clear hxl
  unfold maxLen at hm hn
  have hnn : ((n : Int) != (n : Int)) = false := by simp
  go_enter Tryz.func71, Tryz.ntmps71
  go_wp2
  go_loopw [13] (fun i w' => ∃ k : Nat, k ≤ n ∧ i = .int .i64 (k : Int) ∧ ∃ m, w' = w.drewN m) (fun i _ => n - (intOf i).toNat)
  case atStart => exact ⟨0, by omega, rfl, 0, rfl⟩
  case round =>
    obtain ⟨k, hk, rfl, m, rfl⟩ := hrel
    by_cases hlt : k < n
    · obtain ⟨b1, o1, rfl, hb1, hc1⟩ := HX.out (by omega)
      obtain ⟨b2, o2, rfl, hb2, hc2⟩ := HY.out (by omega)
      have p0 : w.cell? ⟨b1, o1 + k, none⟩ = some (.string (xs.getD k ⟨#[]⟩)) := by have h := hc1 k hlt 0 (by omega); simp only [Nat.mul_one, Nat.add_zero] at h; exact h
      have q0 : w.cell? ⟨b2, o2 + k, none⟩ = some (.string (xs.getD k ⟨#[]⟩)) := by have h := hc2 k hlt 0 (by omega); simp only [Nat.mul_one, Nat.add_zero] at h; exact h
      have HW : Hid (wrap64 ((k : Int) + 1) = (k : Int) + 1) := hid (by unfold wrap64; omega)
      clear hc1 hc2
      generalize xs.getD k ⟨#[]⟩ = x at *
      have h1 : (x.toList == x.toList) = true := by simp
      have h2 : (x.toList != x.toList) = false := by simp
      go_wp2
      go_quiet (fail)
      go_wp2
      go_roundw
      case rel => exact ⟨k + 1, by omega, by go_num, _, rfl⟩
      case measure => simp [intOf, HW.out]; omega
    · obtain rfl : k = n := by omega
      go_wp2
      go_ret
      exact ⟨rfl, _, rfl⟩

set_option maxHeartbeats 1000000 in
theorem equal_ents (va vb : Value) (es : List ((Int × Nat) × Nat)) (S T : Nat → Prop) (w : World) (ha : InK 3 w S va es.length (entF es)) (hb : InK 3 w T vb es.length (entF es)) :
    Calls Tryz.prog 70 #[va, vb] w (Quiet w (.bool true)) := by
  obtain ⟨a, c, rfl, hc, hm, hx⟩ := ha
  obtain ⟨b, d, rfl, hd, hn, hy⟩ := hb
  have HX := hid hx
  have HY := hid hy
  clear hx hy
  generalize hxl : es.length = n at *
  clear hxl
  unfold maxLen at hm hn
  have hnn : ((n : Int) != (n : Int)) = false := by simp
  go_enter Tryz.func70, Tryz.ntmps70
  go_wp2
  go_loopw [13] (fun i w' => ∃ k : Nat, k ≤ n ∧ i = .int .i64 (k : Int) ∧ ∃ m, w' = w.drewN m) (fun i _ => n - (intOf i).toNat)
  case atStart => exact ⟨0, by omega, rfl, 0, rfl⟩
  case round =>
    obtain ⟨k, hk, rfl, m, rfl⟩ := hrel
    by_cases hlt : k < n
    · obtain ⟨b1, o1, rfl, hb1, hc1⟩ := HX.out (by omega)
      obtain ⟨b2, o2, rfl, hb2, hc2⟩ := HY.out (by omega)
      have p0 : w.cell? ⟨b1, o1 + k * 3, none⟩ = some (.int .i64 (es.getD k ((0, 0), 0)).1.1) := hc1 k hlt 0 (by omega)
      have p1 : w.cell? ⟨b1, o1 + k * 3 + 1, none⟩ = some (.int .i64 ((es.getD k ((0, 0), 0)).1.2 : Int)) := hc1 k hlt 1 (by omega)
      have p2 : w.cell? ⟨b1, o1 + k * 3 + 2, none⟩ = some (.int .i64 ((es.getD k ((0, 0), 0)).2 : Int)) := hc1 k hlt 2 (by omega)
      have q0 : w.cell? ⟨b2, o2 + k * 3, none⟩ = some (.int .i64 (es.getD k ((0, 0), 0)).1.1) := hc2 k hlt 0 (by omega)
      have q1 : w.cell? ⟨b2, o2 + k * 3 + 1, none⟩ = some (.int .i64 ((es.getD k ((0, 0), 0)).1.2 : Int)) := hc2 k hlt 1 (by omega)
      have q2 : w.cell? ⟨b2, o2 + k * 3 + 2, none⟩ = some (.int .i64 ((es.getD k ((0, 0), 0)).2 : Int)) := hc2 k hlt 2 (by omega)
      have HW : Hid (wrap64 ((k : Int) + 1) = (k : Int) + 1) := hid (by unfold wrap64; omega)
      clear hc1 hc2
      generalize (es.getD k ((0, 0), 0)).1.1 = x at *
      generalize ((es.getD k ((0, 0), 0)).1.2 : Int) = y at *
      generalize ((es.getD k ((0, 0), 0)).2 : Int) = z at *
      have h1 : (x == x) = true := by simp
      have h2 : (y == y) = true := by simp
      have h3 : (z == z) = true := by simp
      go_wp2
      go_quiet (fail)
      go_wp2
      go_roundw
      case rel => exact ⟨k + 1, by omega, by go_num, _, rfl⟩
      case measure => simp [intOf, HW.out]; omega
    · obtain rfl : k = n := by omega
      go_wp2
      go_ret
      exact ⟨rfl, _, rfl⟩

set_option maxHeartbeats 1000000 in
theorem equal_lists (va vb : Value) (ls : List (List Nat)) (l1 l2 : Nat → Value) (B : Nat) (w : World) (ha : InK 1 w (· < B) va ls.length (fun i _ => l1 i)) (hb : InK 1 w (· < B) vb ls.length (fun i _ => l2 i)) (hB : B ≤ w.heap.size)
    (h1 : ∀ i, i < ls.length → InN w (· < B) (l1 i) (ls.getD i [])) (h2 : ∀ i, i < ls.length → InN w (· < B) (l2 i) (ls.getD i [])) :
    Calls Tryz.prog 72 #[va, vb, .func (.func 73) #[] #[]] w (Quiet w (.bool true)) := by
  obtain ⟨a, c, rfl, hc, hm, hx⟩ := ha
  obtain ⟨b, d, rfl, hd, hn, hy⟩ := hb
  have HX := hid hx
  have HY := hid hy
  have HE := hid (fun i (hi : i < ls.length) m => equal_ints (l1 i) (l2 i) _ _ _ (w.drewN m) (InK.keep (h1 i hi) fun _ _ => rfl) (InK.keep (h2 i hi) fun _ _ => rfl))
  have HF : Hid (∀ i, i < ls.length → ∃ a1 c1 a2 c2, l1 i = .slice a1 (ls.getD i []).length c1 ∧ l2 i = .slice a2 (ls.getD i []).length c2) := hid (fun i hi => by
    obtain ⟨a1, c1, e1, -⟩ := h1 i hi
    obtain ⟨a2, c2, e2, -⟩ := h2 i hi
    exact ⟨a1, c1, a2, c2, e1, e2⟩)
  clear hx hy h1 h2
  generalize hxl : ls.length = n at *
  clear hxl
  unfold maxLen at hm hn
  have hnn : ((n : Int) != (n : Int)) = false := by simp
  go_enter Tryz.func72, Tryz.ntmps72
  go_wp2_with fail
  go_loopw [17] (fun i w' => ∃ k : Nat, k ≤ n ∧ i = .int .i64 (k : Int) ∧ ∃ m, w' = w.drewN m) (fun i _ => n - (intOf i).toNat)
  case atStart => exact ⟨0, by omega, rfl, 0, rfl⟩
  case round =>
    obtain ⟨k, hk, rfl, m, rfl⟩ := hrel
    by_cases hlt : k < n
    · obtain ⟨b1, o1, rfl, hb1, hc1⟩ := HX.out (by omega)
      obtain ⟨b2, o2, rfl, hb2, hc2⟩ := HY.out (by omega)
      obtain ⟨a1, c1, a2, c2, e1, e2⟩ := HF.out k hlt
      have p0 : w.cell? ⟨b1, o1 + k, none⟩ = some (l1 k) := by have h := hc1 k hlt 0 (by omega); simp only [Nat.mul_one, Nat.add_zero] at h; exact h
      have q0 : w.cell? ⟨b2, o2 + k, none⟩ = some (l2 k) := by have h := hc2 k hlt 0 (by omega); simp only [Nat.mul_one, Nat.add_zero] at h; exact h
      have HEK := hid (HE.out k hlt m)
      rw [e1] at p0 HEK
      rw [e2] at q0 HEK
      have HW : Hid (wrap64 ((k : Int) + 1) = (k : Int) + 1) := hid (by unfold wrap64; omega)
      clear hc1 hc2 e1 e2
      generalize (ls.getD k []).length = l at *
      go_wp2_with fail
      with_reducible refine HEK.out.mono ?_
      rintro e w1 ⟨rfl, k1, rfl⟩
      clear p0 q0
      go_wp2_with fail
      go_roundw
      case rel => exact ⟨k + 1, by omega, by go_num, m + k1, rfl⟩
      case measure => simp [intOf, HW.out]; omega
    · obtain rfl : k = n := by omega
      go_wp2
      go_ret
      exact ⟨rfl, _, rfl⟩

set_option maxRecDepth 100000 in
set_option maxHeartbeats 2000000 in
theorem posting_Same (ix : Ix) (e1 v1 l1 e2 v2 l2 : Value) (B : Nat) (w : World) (h1 : RdIx w (· < B) e1 v1 l1 ix) (h2 : RdIx w (· < B) e2 v2 l2 ix) (hB : B ≤ w.heap.size) :
    Calls Tryz.prog 37 #[.agg #[e1, v1, l1], .agg #[e2, v2, l2]] w (Ret w (.bool true)) := by
  have HE := hid (fun W (hW : Below w.heap.size w W) => equal_ents e1 e2 ix.ents _ _ W (h1.ents.keep fun p (hp : p.block < B) => hW.cell (p := p) (by omega)) (h2.ents.keep fun p (hp : p.block < B) => hW.cell (p := p) (by omega)))
  have HV := hid (fun W (hW : Below w.heap.size w W) => equal_strs v1 v2 ix.vals _ _ W (InK.keep h1.vals fun p (hp : p.block < B) => hW.cell (p := p) (by omega)) (InK.keep h2.vals fun p (hp : p.block < B) => hW.cell (p := p) (by omega)))
  obtain ⟨f1, g1, k1⟩ := h1.lists
  obtain ⟨f2, g2, k2⟩ := h2.lists
  have HL := hid (fun W (hW : Below w.heap.size w W) => equal_lists l1 l2 ix.lists f1 f2 B W (g1.keep fun p (hp : p.block < B) => hW.cell (p := p) (by omega)) (g2.keep fun p (hp : p.block < B) => hW.cell (p := p) (by omega)) (by have := hW.size; omega)
    (fun i hi => InK.keep (k1 i hi) fun p (hp : p.block < B) => hW.cell (p := p) (by omega)) (fun i hi => InK.keep (k2 i hi) fun p (hp : p.block < B) => hW.cell (p := p) (by omega)))
  obtain ⟨ea, ec, rfl, -⟩ := h1.ents
  obtain ⟨va, vc, rfl, -⟩ := h1.vals
  obtain ⟨la, lc, rfl, -⟩ := g1
  obtain ⟨eb, ed, rfl, -⟩ := h2.ents
  obtain ⟨vb, vd, rfl, -⟩ := h2.vals
  obtain ⟨lb, ld, rfl, -⟩ := g2
  clear h1 h2 k1 k2
  generalize ix.ents.length = n1 at *
  generalize ix.vals.length = n2 at *
  generalize ix.lists.length = n3 at *
  have HB2 : Hid (Below w.heap.size w ((w.alloc (.cells #[.slice ea n1 ec, .slice va n2 vc, .slice la n3 lc] 40)).alloc (.cells #[.slice eb n1 ed, .slice vb n2 vd, .slice lb n3 ld] 40))) := hid (by have := Below.refl w.heap.size w; repeat' (first | (with_reducible exact Below.refl _ _) | (with_reducible assumption) | (with_reducible refine below_drewN ?_) | (with_reducible refine Below.alloc ?_ ?_ _) | (with_reducible refine Below.drew ?_) | (with_reducible refine Below.setCell ?_ ?_ _) | (with_reducible refine Below.trans ?_ (Below.mono (by with_reducible assumption) ?_)) | go_size))
  have HX := hid ((BoxN.new w #[.slice ea n1 ec, .slice va n2 vc, .slice la n3 lc] 40).alloc (.cells #[.slice eb n1 ed, .slice vb n2 vd, .slice lb n3 ld] 40))
  have HY := hid (BoxN.new (w.alloc (.cells #[.slice ea n1 ec, .slice va n2 vc, .slice la n3 lc] 40)) #[.slice eb n1 ed, .slice vb n2 vd, .slice lb n3 ld] 40)
  rw [World.size_alloc] at HY
  go_enter Tryz.func37, Tryz.ntmps37
  go_upto_region 1 with fail
  generalize (w.alloc (.cells #[.slice ea n1 ec, .slice va n2 vc, .slice la n3 lc] 40)).alloc (.cells #[.slice eb n1 ed, .slice vb n2 vd, .slice lb n3 ld] 40) = W2 at *
  have x0 := HX.out.cell 0 rfl
  have y0 := HY.out.cell 0 rfl
  go_wp2_with fail
  with_reducible refine (HE.out _ HB2.out).mono ?_
  rintro e w3 ⟨rfl, q3, rfl⟩
  have HB3 := hid (below_drewN (n := q3) HB2.out)
  have HX3 := hid (HX.out.drewN q3)
  have HY3 := hid (HY.out.drewN q3)
  clear x0 y0 HX HY HB2
  generalize W2.drewN q3 = W3 at *
  have x1 := HX3.out.cell 1 rfl
  have y1 := HY3.out.cell 1 rfl
  go_wp2_with fail
  with_reducible refine (HV.out _ HB3.out).mono ?_
  rintro e w4 ⟨rfl, q4, rfl⟩
  have HB4 := hid (below_drewN (n := q4) HB3.out)
  have HX4 := hid (HX3.out.drewN q4)
  have HY4 := hid (HY3.out.drewN q4)
  clear x1 y1 HX3 HY3 HB3
  generalize W3.drewN q4 = W4 at *
  have x2 := HX4.out.cell 2 rfl
  have y2 := HY4.out.cell 2 rfl
  go_wp2_with fail
  with_reducible refine (HL.out _ HB4.out).mono ?_
  rintro e w5 ⟨rfl, q5, rfl⟩
  have HB5 := hid (below_drewN (n := q5) HB4.out)
  clear x2 y2
  go_wp2
  go_ret
  exact ⟨rfl, HB5.out⟩

end Go.Proofs.YtabemneoobbnaaaGreatDoor

namespace Go.Proofs.YtabemneoobbnaaaGreatDoor
open Go.RowKit

set_option maxRecDepth 100000 in
set_option maxHeartbeats 4000000 in
theorem posting_Add_there (cs : List Cv) (hok : CvsOk cs) (ev vv lv v : Value) (B i : Nat) (r : Int × Nat) (X : List ByteArray) (w : World) (hx : RdIx w (· < B) ev vv lv (indexOf cs)) (hB : B ≤ w.heap.size)
    (hv : InS w (· < B) v X) (ha : Asc X) (hl : X.length ≤ 4096) (h1 : 0 ≤ r.1) (h2 : r.1 ≤ 1073741824) (hi : i < cs.length) (hr : (cs.getD i Cv.z).1 = r) :
    Calls Tryz.prog 35 #[.agg #[ev, vv, lv], .agg #[.int .i64 r.1, .int .i64 (r.2 : Int)], v] w (Ret w (.tuple #[.agg #[.slice none 0 0, .slice none 0 0, .slice none 0 0], .int .i64 6])) := by
  obtain ⟨r1, r2⟩ := r
  simp only at h1 h2
  have HVLD := hid (fun W (hW : Below w.heap.size w W) => posting_Valid cs hok ev vv lv B W (hx.keep fun p (hp : p.block < B) => hW.cell (p := p) (by omega)) (by have := hW.size; omega))
  have HIS := hid (fun W (hW : Below w.heap.size w W) => text_IsSet v X B W (Rd.below (InS.rds hv fun b h => h) hW hB))
  rw [isSet_asc ha] at HIS
  have HNM := hid (fun W => posting_named r1 (r2 : Int) W h1 h2 (by omega))
  have HCO := hid (fun W (hW : Below w.heap.size w W) => posting_Column (indexOf cs) ev vv lv r1 (r2 : Int) B W (hx.keep fun p (hp : p.block < B) => hW.cell (p := p) (by omega)) (by have := hW.size; omega) (by rw [show (indexOf cs).ents.length = cs.length from ents_len cs]; have := hok.many; omega))
  have HF : Hid (findR (refsE (indexOf cs).ents) (r1, (r2 : Int)) 0 = (i : Int)) := hid (by have h := find_at hok hi; rw [show refZ (cs.getD i Cv.z) = (r1, (r2 : Int)) by unfold refZ; rw [hr]] at h; exact h)
  rw [HF.out] at HCO
  obtain ⟨ea, ec, rfl, -⟩ := hx.ents
  obtain ⟨va, vc, rfl, -⟩ := hx.vals
  obtain ⟨lf, ⟨la, lc, rfl, -⟩, -⟩ := hx.lists
  obtain ⟨xa, xc, rfl, -⟩ := hv
  clear hx hok ha hr HF hi
  generalize (indexOf cs).ents.length = n1 at *
  generalize (indexOf cs).vals.length = n2 at *
  generalize (indexOf cs).lists.length = n3 at *
  generalize hxl : X.length = xl at *
  have HXL := hid hxl
  clear hxl
  have HB3 : Hid (Below w.heap.size w (((w.alloc (.cells #[.slice ea n1 ec, .slice va n2 vc, .slice la n3 lc] 40)).alloc (.cells #[.int .i64 r1, .int .i64 (r2 : Int)] 47)).alloc (.cells #[.slice none 0 0, .slice none 0 0, .slice none 0 0] 40))) := hid (by have := Below.refl w.heap.size w; repeat' (first | (with_reducible exact Below.refl _ _) | (with_reducible assumption) | (with_reducible refine below_drewN ?_) | (with_reducible refine Below.alloc ?_ ?_ _) | (with_reducible refine Below.drew ?_) | (with_reducible refine Below.setCell ?_ ?_ _) | (with_reducible refine Below.trans ?_ (Below.mono (by with_reducible assumption) ?_)) | go_size))
  have HX3 := hid (((BoxN.new w #[.slice ea n1 ec, .slice va n2 vc, .slice la n3 lc] 40).alloc (.cells #[.int .i64 r1, .int .i64 (r2 : Int)] 47)).alloc (.cells #[.slice none 0 0, .slice none 0 0, .slice none 0 0] 40))
  have HR3 := hid ((BoxN.new (w.alloc (.cells #[.slice ea n1 ec, .slice va n2 vc, .slice la n3 lc] 40)) #[.int .i64 r1, .int .i64 (r2 : Int)] 47).alloc (.cells #[.slice none 0 0, .slice none 0 0, .slice none 0 0] 40))
  have HO3 := hid (BoxN.new ((w.alloc (.cells #[.slice ea n1 ec, .slice va n2 vc, .slice la n3 lc] 40)).alloc (.cells #[.int .i64 r1, .int .i64 (r2 : Int)] 47)) #[.slice none 0 0, .slice none 0 0, .slice none 0 0] 40)
  rw [World.size_alloc] at HR3
  rw [World.size_alloc, World.size_alloc] at HO3
  go_enter Tryz.func35, Tryz.ntmps35
  go_upto_region 1 with fail
  generalize ((w.alloc (.cells #[.slice ea n1 ec, .slice va n2 vc, .slice la n3 lc] 40)).alloc (.cells #[.int .i64 r1, .int .i64 (r2 : Int)] 47)).alloc (.cells #[.slice none 0 0, .slice none 0 0, .slice none 0 0] 40) = W3 at *
  have x0 := HX3.out.cell 0 rfl
  have x1 := HX3.out.cell 1 rfl
  have x2 := HX3.out.cell 2 rfl
  go_wp2_with fail
  with_reducible refine (HVLD.out _ HB3.out).mono ?_
  rintro e w4 ⟨rfl, hb4⟩
  have HB4 := hid (HB3.out.trans (hb4.mono HB3.out.size))
  have HX4 := hid (HX3.out.below hb4 HX3.out.lt)
  have HR4 := hid (HR3.out.below hb4 HR3.out.lt)
  have HO4 := hid (HO3.out.below hb4 HO3.out.lt)
  clear hb4 x0 x1 x2 HVLD
  go_wp2_with fail
  with_reducible refine (HIS.out _ HB4.out).mono ?_
  rintro e w5 ⟨rfl, k5, rfl⟩
  have HB5 := hid (below_drewN (n := k5) HB4.out)
  have HX5 := hid (HX4.out.drewN k5)
  have HR5 := hid (HR4.out.drewN k5)
  have HO5 := hid (HO4.out.drewN k5)
  generalize w4.drewN k5 = w5 at *
  have r0 := HR5.out.cell 0 rfl
  have r1' := HR5.out.cell 1 rfl
  clear HIS HB3 HB4 HX3 HX4 HR3 HR4 HO3 HO4
  go_wp2_with fail
  with_reducible refine (HNM.out _).mono ?_
  rintro e w6 ⟨rfl, hb6⟩
  have HB6 := hid (HB5.out.trans (hb6.mono HB5.out.size))
  have HX6 := hid (HX5.out.below hb6 HX5.out.lt)
  have HR6 := hid (HR5.out.below hb6 HR5.out.lt)
  have HO6 := hid (HO5.out.below hb6 HO5.out.lt)
  clear hb6 r0 r1' HNM HB5 HX5 HR5 HO5
  have x0 := HX6.out.cell 0 rfl
  have x1 := HX6.out.cell 1 rfl
  have x2 := HX6.out.cell 2 rfl
  have r0 := HR6.out.cell 0 rfl
  have r1' := HR6.out.cell 1 rfl
  have hd0 : decide ((4096 : Int) < (xl : Int)) = false := decide_eq_false (by omega)
  go_wp2_with fail
  with_reducible refine (HCO.out _ HB6.out).mono ?_
  rintro e w7 ⟨rfl, hb7⟩
  have HB7 := hid (HB6.out.trans (hb7.mono HB6.out.size))
  have HX7 := hid (HX6.out.below hb7 HX6.out.lt)
  have HR7 := hid (HR6.out.below hb7 HR6.out.lt)
  have HO7 := hid (HO6.out.below hb7 HO6.out.lt)
  clear hb7 x0 x1 x2 r0 r1' HCO HB6 HX6 HR6 HO6 HX7 HR7
  have hd1 : decide (0 ≤ (i : Int)) = true := decide_eq_true (by omega)
  have o0 := HO7.out.cell 0 rfl
  have o1 := HO7.out.cell 1 rfl
  have o2 := HO7.out.cell 2 rfl
  have o3 := HO7.out.frozen 0
  have o4 := HO7.out.frozen 1
  have o5 := HO7.out.frozen 2
  go_wp2_with fail
  clear o0 o1 o2 o3 o4 o5
  have hq := ((HO7.out.set 0 (.slice none 0 0)).set 1 (.slice none 0 0)).set 2 (.slice none 0 0)
  have q0 := hq.cell 0 rfl
  have q1 := hq.cell 1 rfl
  have q2 := hq.cell 2 rfl
  clear hq
  refine bodyPost_ret (v := .tuple #[.agg #[.slice none 0 0, .slice none 0 0, .slice none 0 0], .int .i64 6]) (by simp [results, Tryz.results35, go_sem, q0, q1, q2]; done) rfl ⟨rfl, ?_⟩
  exact ((HB7.out.setCell (by show w.heap.size ≤ w.heap.size + 1 + 1; omega) _).setCell (by show w.heap.size ≤ w.heap.size + 1 + 1; omega) _).setCell (by show w.heap.size ≤ w.heap.size + 1 + 1; omega) _

end Go.Proofs.YtabemneoobbnaaaGreatDoor
