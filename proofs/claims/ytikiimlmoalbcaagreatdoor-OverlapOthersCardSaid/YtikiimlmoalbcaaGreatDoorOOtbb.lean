/- The order of hits: bounded.Order; sorting them. Rows of hits: which columns they are of, in order; a row of hits that grows. DERIVED: THE SHELF's CONTRACTS AT THIS DUMP, IN PLAIN WORDS (tools/lay-plain.mjs out of 'YtikiimlmoalbcaaGreatDoorShRL.lean', which tools/lay-shelf.mjs wrote): THE SAME DECLARATIONS UNDER THE SAME NAMES: 'import', 'namespace', 'open', 'def', 'theorem' AND NOTHING ELSE: no command of the shelf's: FOR A HAND-IN. Each laying: the table of numbers ('.._ren') and one theorem, a field a fact of the dump's own or the kernel's comparison; each contract: ONE APPLICATION. -/
import Derived.Deep.RegionHeld3
import Derived.Test.YtikiimlmoalbcaaGreatDoorOOtaw
import Derived.Test.YtikiimlmoalbcaaGreatDoorOOtaz
import Derived.Test.YtikiimlmoalbcaaGreatDoorOOtba
import Derived.Shelf.SortM.Plain
import Derived.Shelf.SortM.SortNone
import Derived.Shelf.SlicesG.CompactI
import Derived.Shelf.SlicesG.Clone
import Derived.Shelf.SlicesG.Turned
import Derived.Shelf.SlSortCmp.WholeK
import Derived.Shelf.SlSortCmp.Whole1
import Derived.Shelf.SlIter.Nil
import Derived.Ground.SlsfProg
import Derived.Ground.SlgnProg
import Derived.Ground.GgzProg
import Derived.Ground.SlgmProg
import Derived.Test.YtikiimlmoalbcaaGreatDoorProg
set_option linter.unusedVariables false
set_option linter.unusedSimpArgs false
namespace Go.Proofs.YtikiimlmoalbcaaGreatDoor
open Go.RowKit Go.Shelf
def orY (x y z : Int) : Int := if x ≠ 0 then x else if y ≠ 0 then y else z
set_option maxHeartbeats 2000000 in
theorem lib_Or3 (x y z : Int) (b c : Nat) (w : World) (h0 : w.cell? ⟨b, 0, none⟩ = some (.int .i64 x)) (h1 : w.cell? ⟨b, 1, none⟩ = some (.int .i64 y)) (h2 : w.cell? ⟨b, 2, none⟩ = some (.int .i64 z)) :
    Calls Tryz.prog 135 #[.slice (some ⟨b, 0, none⟩) 3 c] w fun e w' => e = .returned (.int .i64 (orY x y z)) ∧ w = w' := by
  have HC : Hid (orY x y z = if x ≠ 0 then x else if y ≠ 0 then y else z) := hid rfl
  generalize orY x y z = u at *
  go_enter Tryz.func135, Tryz.ntmps135
  by_cases hx : x = 0
  · subst hx
    by_cases hy : y = 0
    · subst hy
      by_cases hz : z = 0
      · subst hz
        go_wp2
        refine wp_loop_rounds 4 ?_
        rw [rounds_succ]
        go_wp2
        rw [rounds_succ]
        go_wp2
        rw [rounds_succ]
        go_wp2
        rw [rounds_succ]
        go_wp2
        go_ret
        exact ⟨ret_int (by rw [HC.out]; simp), rfl⟩
      · have hz1 : (z != 0) = true := by simpa using hz
        go_wp2
        refine wp_loop_rounds 4 ?_
        rw [rounds_succ]
        go_wp2
        rw [rounds_succ]
        go_wp2
        rw [rounds_succ]
        go_wp2
        go_ret
        exact ⟨ret_int (by rw [HC.out]; simp), rfl⟩
    · have hy1 : (y != 0) = true := by simpa using hy
      go_wp2
      refine wp_loop_rounds 4 ?_
      rw [rounds_succ]
      go_wp2
      rw [rounds_succ]
      go_wp2
      go_ret
      exact ⟨ret_int (by rw [HC.out]; simp [hy]), rfl⟩
  · have hx1 : (x != 0) = true := by simpa using hx
    go_wp2
    refine wp_loop_rounds 4 ?_
    rw [rounds_succ]
    go_wp2
    go_ret
    exact ⟨ret_int (by rw [HC.out]; simp [hx]), rfl⟩
structure Mh where
  ta : Int
  ca : Int
  nu : Option Addr × Nat
  de : Option Addr × Nat
  p : Nat
  q : Nat
instance : Inhabited Mh := ⟨⟨0, 0, (none, 0), (none, 0), 0, 1⟩⟩
def Mh.fr (m : Mh) : Value := .agg #[.bool false, .slice m.nu.1 (Fr.dig m.p).length m.nu.2, .bool false, .slice m.de.1 (Fr.dig m.q).length m.de.2]
def encM (m : Mh) : List Value := [.int .i64 m.ta, .int .i64 m.ca, .bool false, .slice m.nu.1 (Fr.dig m.p).length m.nu.2, .bool false, .slice m.de.1 (Fr.dig m.q).length m.de.2]
def cfM (m1 m2 : Mh) : Int := orY (Fr.sgn (m2.p * m1.q) (m1.p * m2.q)) (Fr.isgn m1.ta m2.ta) (Fr.isgn m1.ca m2.ca)
set_option maxRecDepth 100000 in
set_option maxHeartbeats 8000000 in
theorem bnd_Order (m1 m2 : Mh) (w : World) (h1 : Fr.RdF w m1.fr false m1.p m1.q) (h2 : Fr.RdF w m2.fr false m2.p m2.q) (s1 : Fr.Sml m1.p m1.q) (s2 : Fr.Sml m2.p m2.q) (ho : Fr.OneAt w) :
  Calls Tryz.prog 81 #[.agg (encM m1).toArray, .agg (encM m2).toArray] w (fun e w' => e = .returned (.int .i64 (cfM m1 m2)) ∧ Below w.heap.size w w') := by
 have HSC := hid (fun W (hW : Below w.heap.size w W) => Fr.frac_Cmp m2.fr m1.fr m2.p m2.q m1.p m1.q W (h2.kept hW) (h1.kept hW) s2 s1 (ho.below hW))
 have HCM := hid (fun W => Fr.Compare_int m1.ta m2.ta W)
 have HCN := hid (fun W => Fr.Compare_int m1.ca m2.ca W)
 unfold Mh.fr at HSC
 show Calls Tryz.prog 81 #[.agg #[.int .i64 m1.ta, .int .i64 m1.ca, .bool false, .slice m1.nu.1 (Fr.dig m1.p).length m1.nu.2, .bool false, .slice m1.de.1 (Fr.dig m1.q).length m1.de.2], .agg #[.int .i64 m2.ta, .int .i64 m2.ca, .bool false, .slice m2.nu.1 (Fr.dig m2.p).length m2.nu.2, .bool false, .slice m2.de.1 (Fr.dig m2.q).length m2.de.2]] w _
 have HCF : Hid (cfM m1 m2 = orY (Fr.sgn (m2.p * m1.q) (m1.p * m2.q)) (Fr.isgn m1.ta m2.ta) (Fr.isgn m1.ca m2.ca)) := hid rfl
 clear h1 h2 s1 s2 ho
 generalize cfM m1 m2 = cf at *
 generalize Fr.sgn (m2.p * m1.q) (m1.p * m2.q) = sg at *
 generalize Fr.isgn m1.ta m2.ta = ig at *
 generalize Fr.isgn m1.ca m2.ca = jg at *
 generalize (Fr.dig m1.p).length = l1 at *
 generalize (Fr.dig m1.q).length = k1 at *
 generalize (Fr.dig m2.p).length = l2 at *
 generalize (Fr.dig m2.q).length = k2 at *
 have HX1 := hid ((BoxN.new w #[.int .i64 m1.ta, .int .i64 m1.ca, .bool false, .slice m1.nu.1 l1 m1.nu.2, .bool false, .slice m1.de.1 k1 m1.de.2] 53).alloc (.cells #[.int .i64 m2.ta, .int .i64 m2.ca, .bool false, .slice m2.nu.1 l2 m2.nu.2, .bool false, .slice m2.de.1 k2 m2.de.2] 53))
 have hx2 := BoxN.new (w.alloc (.cells #[.int .i64 m1.ta, .int .i64 m1.ca, .bool false, .slice m1.nu.1 l1 m1.nu.2, .bool false, .slice m1.de.1 k1 m1.de.2] 53)) #[.int .i64 m2.ta, .int .i64 m2.ca, .bool false, .slice m2.nu.1 l2 m2.nu.2, .bool false, .slice m2.de.1 k2 m2.de.2] 53
 rw [World.size_alloc] at hx2
 have HX2 := hid hx2
 have HB0 := hid (((Below.refl w.heap.size w).alloc (Nat.le_refl _) (.cells #[.int .i64 m1.ta, .int .i64 m1.ca, .bool false, .slice m1.nu.1 l1 m1.nu.2, .bool false, .slice m1.de.1 k1 m1.de.2] 53)).alloc (by simp) (.cells #[.int .i64 m2.ta, .int .i64 m2.ca, .bool false, .slice m2.nu.1 l2 m2.nu.2, .bool false, .slice m2.de.1 k2 m2.de.2] 53))
 clear hx2
 go_enter Tryz.func81, Tryz.ntmps81
 go_upto_region 1 with fail
 generalize (w.alloc (.cells #[.int .i64 m1.ta, .int .i64 m1.ca, .bool false, .slice m1.nu.1 l1 m1.nu.2, .bool false, .slice m1.de.1 k1 m1.de.2] 53)).alloc (.cells #[.int .i64 m2.ta, .int .i64 m2.ca, .bool false, .slice m2.nu.1 l2 m2.nu.2, .bool false, .slice m2.de.1 k2 m2.de.2] 53) = W0 at *
 have HG := hid (fun W (hW : Below W0.heap.size W0 W) => (by
  have h1 := HX1.out.below hW HX1.out.lt
  have h2 := HX2.out.below hW HX2.out.lt
  exact ⟨h1.cell 0 rfl, h1.cell 1 rfl, h1.cell 2 rfl, h1.cell 3 rfl, h1.cell 4 rfl, h1.cell 5 rfl, h2.cell 0 rfl, h2.cell 1 rfl, h2.cell 2 rfl, h2.cell 3 rfl, h2.cell 4 rfl, h2.cell 5 rfl⟩ : W.cell? ⟨w.heap.size, 0, none⟩ = some (.int .i64 m1.ta) ∧ W.cell? ⟨w.heap.size, 1, none⟩ = some (.int .i64 m1.ca) ∧ W.cell? ⟨w.heap.size, 2, none⟩ = some (.bool false) ∧ W.cell? ⟨w.heap.size, 3, none⟩ = some (.slice m1.nu.1 l1 m1.nu.2) ∧ W.cell? ⟨w.heap.size, 4, none⟩ = some (.bool false) ∧ W.cell? ⟨w.heap.size, 5, none⟩ = some (.slice m1.de.1 k1 m1.de.2) ∧ W.cell? ⟨w.heap.size + 1, 0, none⟩ = some (.int .i64 m2.ta) ∧ W.cell? ⟨w.heap.size + 1, 1, none⟩ = some (.int .i64 m2.ca) ∧ W.cell? ⟨w.heap.size + 1, 2, none⟩ = some (.bool false) ∧ W.cell? ⟨w.heap.size + 1, 3, none⟩ = some (.slice m2.nu.1 l2 m2.nu.2) ∧ W.cell? ⟨w.heap.size + 1, 4, none⟩ = some (.bool false) ∧ W.cell? ⟨w.heap.size + 1, 5, none⟩ = some (.slice m2.de.1 k2 m2.de.2)))
 have HC := hid (show Below W0.heap.size W0 W0.drew by have h1 := Below.refl W0.heap.size W0; repeat' (first | (with_reducible exact Below.refl _ _) | (with_reducible assumption) | (with_reducible refine below_drewN ?_) | (with_reducible refine Below.alloc ?_ ?_ _) | (with_reducible refine Below.drew ?_) | (with_reducible refine Below.setCell ?_ ?_ _) | (with_reducible refine Below.trans ?_ (Below.mono (by with_reducible assumption) ?_)) | go_size))
 go_region_held3 (fun W => W.cell? ⟨w.heap.size, 0, none⟩ = some (.int .i64 m1.ta) ∧ W.cell? ⟨w.heap.size, 1, none⟩ = some (.int .i64 m1.ca) ∧ W.cell? ⟨w.heap.size, 2, none⟩ = some (.bool false) ∧ W.cell? ⟨w.heap.size, 3, none⟩ = some (.slice m1.nu.1 l1 m1.nu.2) ∧ W.cell? ⟨w.heap.size, 4, none⟩ = some (.bool false) ∧ W.cell? ⟨w.heap.size, 5, none⟩ = some (.slice m1.de.1 k1 m1.de.2) ∧ W.cell? ⟨w.heap.size + 1, 0, none⟩ = some (.int .i64 m2.ta) ∧ W.cell? ⟨w.heap.size + 1, 1, none⟩ = some (.int .i64 m2.ca) ∧ W.cell? ⟨w.heap.size + 1, 2, none⟩ = some (.bool false) ∧ W.cell? ⟨w.heap.size + 1, 3, none⟩ = some (.slice m2.nu.1 l2 m2.nu.2) ∧ W.cell? ⟨w.heap.size + 1, 4, none⟩ = some (.bool false) ∧ W.cell? ⟨w.heap.size + 1, 5, none⟩ = some (.slice m2.de.1 k2 m2.de.2))
  (first | exact HG.out _ HC.out | exact HG.out _ (HC.out.alloc HC.out.size _) | go_keep)
  (first
   | (go_at_call 84; go_must ((with_reducible refine (HSC.out _ (Fr.belowT HB0.out HC.out)).mono ?_); rintro e w5 ⟨rfl, hb5⟩; have HC := hid (Fr.belowT HC.out hb5); clear hb5))
   | (go_at_call 136; go_must (first | ((with_reducible refine (HCM.out _).mono ?_); rintro e w6 ⟨rfl, rfl⟩) | ((with_reducible refine (HCN.out _).mono ?_); rintro e w6 ⟨rfl, rfl⟩)))
   | (go_at_call 135; go_must ((with_reducible refine (lib_Or3 sg ig jg _ _ _ (by go_cell) (by go_cell) (by go_cell)).mono ?_); rintro e w7 ⟨rfl, rfl⟩)))
 all_goals
  go_wp2
  go_ret
  exact ⟨by rw [HCF.out]; rfl, by have h1 := Fr.belowT HB0.out HC.out; have h2 := h1.size; repeat' (first | (with_reducible exact Below.refl _ _) | (with_reducible assumption) | (with_reducible refine below_drewN ?_) | (with_reducible refine Below.alloc ?_ ?_ _) | (with_reducible refine Below.drew ?_) | (with_reducible refine Below.setCell ?_ ?_ _) | (with_reducible refine Below.trans ?_ (Below.mono (by with_reducible assumption) ?_)) | go_size)⟩
theorem rd32_bar {w W : World} {v : Value} {xs : List Nat} {blk : Nat} (h : Fr.Rd32 w v xs) (hb : Bar w blk W) (ho : Fr.Off blk v) : Fr.Rd32 W v xs := by
  obtain ⟨a, c, rfl, h1, h2, h3, h4⟩ := h
  refine ⟨a, c, rfl, h1, h2, h3, fun hp => ?_⟩
  obtain ⟨b, o, rfl, hlt, hcell⟩ := h4 hp
  have hne : b ≠ blk := ho ⟨b, o, none⟩ _ _ rfl hp
  exact ⟨b, o, rfl, Nat.lt_of_lt_of_le hlt hb.size, fun i hi => (hb.cell (p := ⟨b, o + i, none⟩) hlt hne).trans (hcell i hi)⟩
def leM (x y : Mh) : Prop := x.p * y.q ≤ y.p * x.q
theorem leM_trans {x y z : Mh} (hq : 0 < y.q) (h1 : leM x y) (h2 : leM y z) : leM x z := by
  unfold leM at *
  refine Nat.le_of_mul_le_mul_right ?_ hq
  calc x.p * z.q * y.q = x.p * y.q * z.q := by rw [Nat.mul_right_comm]
    _ ≤ y.p * x.q * z.q := Nat.mul_le_mul_right _ h1
    _ = y.p * z.q * x.q := by rw [Nat.mul_right_comm]
    _ ≤ z.p * y.q * x.q := Nat.mul_le_mul_right _ h2
    _ = z.p * x.q * y.q := by rw [Nat.mul_right_comm]
theorem leM_total (x y : Mh) : leM x y ∨ leM y x := Nat.le_total _ _
theorem leM_refl (x : Mh) : leM x x := Nat.le_refl _
def Mq := {m : Mh // 0 < m.q}
instance : Inhabited Mq := ⟨⟨default, by decide⟩⟩
def cfQ (x y : Mq) : Int := cfM x.1 y.1
def ltRf (x y : Mh) : Prop := x.ta < y.ta ∨ (x.ta = y.ta ∧ x.ca < y.ca)
theorem ltQ (x y : Mq) : Go.Proofs.ltOf cfQ x y = true ↔ ¬ leM x.1 y.1 ∨ (leM x.1 y.1 ∧ leM y.1 x.1 ∧ ltRf x.1 y.1) := by
  have hid : ∀ a b : Int, (Fr.isgn a b < 0 ↔ a < b) ∧ (Fr.isgn a b = 0 ↔ a = b) := fun a b => by unfold Fr.isgn; constructor <;> split <;> (try split) <;> omega
  have h1 := hid x.1.ta y.1.ta
  have h2 := hid x.1.ca y.1.ca
  unfold Go.Proofs.ltOf cfQ cfM leM orY ltRf
  rw [decide_eq_true_iff]
  generalize Fr.isgn x.1.ta y.1.ta = a at *
  generalize Fr.isgn x.1.ca y.1.ca = b at *
  rcases Nat.lt_trichotomy (y.1.p * x.1.q) (x.1.p * y.1.q) with h | h | h
  · rw [Fr.sgn_lt h]; simp; omega
  · rw [h, Fr.sgn_self]
    by_cases ha : a = 0
    · simp [ha]; omega
    · simp [ha]; omega
  · rw [Fr.sgn_gt h]; simp; omega
theorem ltQ_false (x y : Mq) : Go.Proofs.ltOf cfQ x y = false ↔ leM x.1 y.1 ∧ (leM y.1 x.1 → ¬ ltRf x.1 y.1) := by
  rw [← Bool.not_eq_true, ltQ]
  constructor
  · intro h
    refine ⟨Classical.byContradiction fun h1 => h (.inl h1), fun h2 h3 => ?_⟩
    have h1 : leM x.1 y.1 := Classical.byContradiction fun h1 => h (.inl h1)
    exact h (.inr ⟨h1, h2, h3⟩)
  · rintro ⟨h1, h2⟩ (h3 | ⟨-, h4, h5⟩)
    · exact h3 h1
    · exact h2 h4 h5
theorem swoQ : Go.Sort.SWO (Go.Proofs.ltOf cfQ) where
  irrefl x := by rw [ltQ_false]; exact ⟨leM_refl _, fun _ => by unfold ltRf; omega⟩
  trans x y z h1 h2 := by
    rw [ltQ] at *
    rcases h1 with h1 | ⟨a1, a2, a3⟩
    · refine .inl fun hxz => h1 ?_
      rcases h2 with h2 | ⟨b1, b2, -⟩
      · exact leM_trans z.2 hxz ((leM_total y.1 z.1).resolve_left h2)
      · exact leM_trans z.2 hxz b2
    · rcases h2 with h2 | ⟨b1, b2, b3⟩
      · exact .inl fun hxz => h2 (leM_trans x.2 a2 hxz)
      · exact .inr ⟨leM_trans y.2 a1 b1, leM_trans y.2 b2 a2, by unfold ltRf at *; omega⟩
  ntrans x y z h1 h2 := by
    rw [ltQ_false] at *
    refine ⟨leM_trans y.2 h1.1 h2.1, fun h3 => ?_⟩
    have a := h1.2 (leM_trans z.2 h2.1 h3)
    have b := h2.2 (leM_trans x.2 h3 h1.1)
    unfold ltRf at *
    omega
def encQ (x : Mq) : List Value := encM x.1
structure GoodM (w : World) (blk : Nat) (m : Mh) : Prop where
  nu : Fr.Rd32 w (.slice m.nu.1 (Fr.dig m.p).length m.nu.2) (Fr.dig m.p)
  de : Fr.Rd32 w (.slice m.de.1 (Fr.dig m.q).length m.de.2) (Fr.dig m.q)
  onu : Fr.Off blk (.slice m.nu.1 (Fr.dig m.p).length m.nu.2)
  ode : Fr.Off blk (.slice m.de.1 (Fr.dig m.q).length m.de.2)
  sml : Fr.Sml m.p m.q
theorem GoodM.rd {w W : World} {blk : Nat} {m : Mh} (h : GoodM w blk m) (hb : Bar w blk W) : Fr.RdF W m.fr false m.p m.q :=
  ⟨_, _, _, _, rfl, rd32_bar h.nu hb h.onu, rd32_bar h.de hb h.ode⟩
theorem hit_sort (ds : List Mq) (base blk n cap : Nat) (w : World) (hn : ds.length = n) (hp : 0 < n) (hm : n ≤ 1048576) (hrow : w.ownsRow base 53 6 (.slice (some ⟨blk, 0, none⟩) n cap) n (flatK 6 n (encF encQ default ds)))
    (hg : ∀ x ∈ ds, GoodM w blk x.1) (ho : ∀ W, Bar w blk W → Fr.OneAt W) :
    Calls Tryz.prog 109 #[.slice (some ⟨blk, 0, none⟩) n cap, .func (.func 81) #[] #[]] w fun e' w' =>
      e' = .returned (.tuple #[]) ∧ ∃ ds' : List Mq, ds'.Perm ds ∧ ds'.Pairwise (fun a b => leM b.1 a.1 ∧ (leM a.1 b.1 → ¬ ltRf b.1 a.1)) ∧ w'.ownsRow base 53 6 (.slice (some ⟨blk, 0, none⟩) n cap) n (flatK 6 n (encF encQ default ds')) ∧ Bar w blk w' := by
  have eg : ∀ args w, (callFunc 81 args).run Tryz.prog w = .ok (.enter 81 args) w := enters_of Tryz.func81 (by kernel_rfl) rfl
  refine (sort_row Tryz.sortHit 6 Tryz.isAgg53 Tryz.sizeOf53 encQ (fun _ => rfl) (fun x v hv => by simp [encQ, encM] at hv; rcases hv with rfl | rfl | rfl | rfl | rfl | rfl <;> rfl) cfQ swoQ 81 eg default ds base blk n cap 53 w hn hp hm hrow
    (fun W hW x hx y hy => bnd_Order x.1 y.1 W ((hg x hx).rd hW) ((hg y hy).rd hW) (hg x hx).sml (hg y hy).sml (ho W hW))).mono ?_
  rintro e w' ⟨h1, ds', h2, h3, h4, h5⟩
  exact ⟨h1, ds', h2, h3.imp fun h => (ltQ_false _ _).1 h, h4, h5⟩
end Go.Proofs.YtikiimlmoalbcaaGreatDoor

namespace Go.Proofs.YtikiimlmoalbcaaGreatDoor
open Go.RowKit
theorem rlt_irr (a : Int × Int) : rlt a a = false := by
  unfold rlt
  simp
theorem cvs_up {cs : List Cv} (h : CvsOk cs) {i j : Nat} (hj : j < cs.length) (hij : i < j) : rlt (refZ (cs.getD i Cv.z)) (refZ (cs.getD j Cv.z)) = true := by
  have h1 := List.pairwise_iff_getElem.1 h.up i j (by omega) hj hij
  rwa [List.getElem_eq_getD Cv.z, List.getElem_eq_getD Cv.z] at h1
theorem cvs_ref {cs : List Cv} (h : CvsOk cs) {i j : Nat} (hi : i < cs.length) (hj : j < cs.length) (e : refZ (cs.getD i Cv.z) = refZ (cs.getD j Cv.z)) : i = j := by
  rcases Nat.lt_trichotomy i j with h1 | h1 | h1
  · have h2 := cvs_up h hj h1
    rw [e, rlt_irr] at h2
    cases h2
  · exact h1
  · have h2 := cvs_up h hi h1
    rw [e, rlt_irr] at h2
    cases h2
structure IsHit (den : Nat → Nat → Nat) (cs : List Cv) (f : Nat → Nat) (c : Nat) (m : Mh) : Prop where
  lt : c < cs.length
  pos : 0 < f c
  ta : m.ta = (cs.getD c Cv.z).1.1
  ca : m.ca = ((cs.getD c Cv.z).1.2 : Int)
  p : m.p = f c / Nat.gcd (f c) (den (f c) (sizeC cs c))
  q : m.q = den (f c) (sizeC cs c) / Nat.gcd (f c) (den (f c) (sizeC cs c))
def colQ (cs : List Cv) (x : Mq) : Nat := ((List.range cs.length).find? fun c => decide (refZ (cs.getD c Cv.z) = (x.1.ta, x.1.ca))).getD 0
theorem colQ_eq {den : Nat → Nat → Nat} {cs : List Cv} {f : Nat → Nat} {c : Nat} {x : Mq} (hk : CvsOk cs) (h : IsHit den cs f c x.1) : colQ cs x = c := by
  have e0 : refZ (cs.getD c Cv.z) = (x.1.ta, x.1.ca) := by rw [h.ta, h.ca]; rfl
  unfold colQ
  cases e : (List.range cs.length).find? fun c => decide (refZ (cs.getD c Cv.z) = (x.1.ta, x.1.ca)) with
  | none =>
    have h1 := List.find?_eq_none.1 e c (List.mem_range.2 h.lt)
    exact absurd (decide_eq_true e0) h1
  | some d =>
    have h1 := List.find?_some e
    have h2 := List.mem_range.1 (List.mem_of_find?_eq_some e)
    exact cvs_ref hk h2 h.lt ((of_decide_eq_true h1).trans e0.symm)
def HitsOf (den : Nat → Nat → Nat) (cs : List Cv) (f : Nat → Nat) (ds : List Mq) : Prop := ∀ x ∈ ds, IsHit den cs f (colQ cs x) x.1
theorem red_le {n d m e : Nat} (hn : 0 < n) (hm : 0 < m) : n / Nat.gcd n d * (e / Nat.gcd m e) ≤ m / Nat.gcd m e * (d / Nat.gcd n d) ↔ n * e ≤ m * d := by
  have g0 : 0 < Nat.gcd n d := Nat.gcd_pos_of_pos_left _ hn
  have h0 : 0 < Nat.gcd m e := Nat.gcd_pos_of_pos_left _ hm
  have e1 : n = Nat.gcd n d * (n / Nat.gcd n d) := (Nat.mul_div_cancel' (Nat.gcd_dvd_left _ _)).symm
  have e2 : d = Nat.gcd n d * (d / Nat.gcd n d) := (Nat.mul_div_cancel' (Nat.gcd_dvd_right _ _)).symm
  have e3 : m = Nat.gcd m e * (m / Nat.gcd m e) := (Nat.mul_div_cancel' (Nat.gcd_dvd_left _ _)).symm
  have e4 : e = Nat.gcd m e * (e / Nat.gcd m e) := (Nat.mul_div_cancel' (Nat.gcd_dvd_right _ _)).symm
  generalize n / Nat.gcd n d = p at *
  generalize d / Nat.gcd n d = q at *
  generalize m / Nat.gcd m e = r at *
  generalize e / Nat.gcd m e = s at *
  generalize Nat.gcd n d = g at *
  generalize Nat.gcd m e = h at *
  rw [e1, e2, e3, e4]
  have a1 : g * p * (h * s) = g * h * (p * s) := by rw [Nat.mul_assoc, Nat.mul_left_comm p, ← Nat.mul_assoc]
  have a2 : h * r * (g * q) = g * h * (r * q) := by rw [Nat.mul_assoc, Nat.mul_left_comm r, ← Nat.mul_assoc, Nat.mul_comm h g]
  rw [a1, a2]
  exact (Nat.mul_le_mul_left_iff (Nat.mul_pos g0 h0)).symm
theorem leM_iff {den : Nat → Nat → Nat} {cs : List Cv} {f : Nat → Nat} {c c' : Nat} {x y : Mh} (h : IsHit den cs f c x) (h' : IsHit den cs f c' y) : leM x y ↔ f c * den (f c') (sizeC cs c') ≤ f c' * den (f c) (sizeC cs c) := by
  unfold leM
  rw [h.p, h.q, h'.p, h'.q]
  exact red_le h.pos h'.pos
theorem hits_bef {den : Nat → Nat → Nat} {cs : List Cv} {f : Nat → Nat} {ds : List Mq} (hk : CvsOk cs) (h : HitsOf den cs f ds) (hs : ds.Pairwise (fun a b => leM b.1 a.1 ∧ (leM a.1 b.1 → ¬ ltRf b.1 a.1))) (hn : (ds.map (colQ cs)).Nodup) :
    (ds.map (colQ cs)).Pairwise (befH den (sizeC cs) f) := by
  rw [List.pairwise_map]
  have hn' : ds.Pairwise (fun a b => colQ cs a ≠ colQ cs b) := by
    have := hn
    unfold List.Nodup at this
    rwa [List.pairwise_map] at this
  refine List.Pairwise.imp_of_mem (fun {a b} ha hb hab => ?_) (hs.and hn')
  obtain ⟨⟨h1, h2⟩, h3⟩ := hab
  have ia := h a ha
  have ib := h b hb
  rw [leM_iff ib ia] at h1
  rw [leM_iff ia ib] at h2
  unfold befH
  rcases Nat.lt_or_ge (f (colQ cs b) * den (f (colQ cs a)) (sizeC cs (colQ cs a))) (f (colQ cs a) * den (f (colQ cs b)) (sizeC cs (colQ cs b))) with h4 | h4
  · exact .inl h4
  · refine .inr ⟨Nat.le_antisymm h1 h4, ?_⟩
    have h5 := h2 h4
    rcases Nat.lt_trichotomy (colQ cs a) (colQ cs b) with h6 | h6 | h6
    · exact h6
    · exact absurd h6 h3
    · exfalso
      apply h5
      have h7 := cvs_up hk ia.lt h6
      unfold ltRf
      rw [ia.ta, ia.ca, ib.ta, ib.ca]
      unfold rlt refZ at h7
      simpa using h7
theorem rd32_grownH {w W : World} {v : Value} {xs : List Nat} {ob : Option Nat} (h : Fr.Rd32 w v xs) (hg : w.grownBy W ob) (ho : ∀ k, ob = some k → Fr.Off k v) : Fr.Rd32 W v xs := by
  obtain ⟨a, c, rfl, h1, h2, h3, h4⟩ := h
  refine ⟨a, c, rfl, h1, h2, h3, fun hp => ?_⟩
  obtain ⟨b, o, rfl, hlt, hcell⟩ := h4 hp
  have hne : ob ≠ some b := fun e => ho b e ⟨b, o, none⟩ _ _ rfl hp rfl
  exact ⟨b, o, rfl, Nat.lt_of_lt_of_le hlt hg.size, fun i hi => (World.cell?_of_block (hg.block b hlt (Ne.symm hne))).trans (hcell i hi)⟩
structure GoodR (W : World) (row : Value) (m : Mh) : Prop where
  nu : Fr.Rd32 W (.slice m.nu.1 (Fr.dig m.p).length m.nu.2) (Fr.dig m.p)
  de : Fr.Rd32 W (.slice m.de.1 (Fr.dig m.q).length m.de.2) (Fr.dig m.q)
  onu : ∀ k, row.ownBlock = some k → Fr.Off k (.slice m.nu.1 (Fr.dig m.p).length m.nu.2)
  ode : ∀ k, row.ownBlock = some k → Fr.Off k (.slice m.de.1 (Fr.dig m.q).length m.de.2)
  sml : Fr.Sml m.p m.q
theorem GoodR.later {W W' : World} {row : Value} {m : Mh} (h : GoodR W row m) (hb : Below W.heap.size W W') : GoodR W' row m := ⟨h.nu.kept hb, h.de.kept hb, h.onu, h.ode, h.sml⟩
theorem GoodR.grown {W W' : World} {row : Value} {m : Mh} {p n cap : Nat} (h : GoodR W row m) (hg : W.grownBy W' row.ownBlock) (hat : row.ownBlock = some p ∨ p = W.heap.size) : GoodR W' (.slice (some ⟨p, 0, none⟩) n cap) m := by
  have key : ∀ v xs, Fr.Rd32 W v xs → (∀ k, row.ownBlock = some k → Fr.Off k v) → ∀ k, (Value.slice (some ⟨p, 0, none⟩) n cap).ownBlock = some k → Fr.Off k v := fun v xs h1 h2 k hk => by
    have e : p = k := by simpa [Value.ownBlock] using hk
    subst e
    rcases hat with hat | hat
    · exact h2 _ hat
    · exact h1.off (by omega)
  exact ⟨rd32_grownH h.nu hg h.onu, rd32_grownH h.de hg h.ode, key _ _ h.nu h.onu, key _ _ h.de h.ode, h.sml⟩
theorem GoodR.m {W : World} {b n c : Nat} {m : Mh} (h : GoodR W (.slice (some ⟨b, 0, none⟩) n c) m) : GoodM W b m := ⟨h.nu, h.de, h.onu b rfl, h.ode b rfl, h.sml⟩
theorem GoodM.later {W W' : World} {b n c : Nat} {m : Mh} (h : GoodM W b m) (hb : Bar W b W') : GoodR W' (.slice (some ⟨b, 0, none⟩) n c) m := by
  refine ⟨rd32_bar h.nu hb h.onu, rd32_bar h.de hb h.ode, fun k hk => ?_, fun k hk => ?_, h.sml⟩
  · have e : b = k := by simpa [Value.ownBlock] using hk
    rw [← e]; exact h.onu
  · have e : b = k := by simpa [Value.ownBlock] using hk
    rw [← e]; exact h.ode
structure HtRow (B : Nat) (W : World) (v : Value) (ds : List Mq) : Prop where
  row : W.ownsRow B 53 6 v ds.length (flatK 6 ds.length (encF encQ default ds))
  good : ∀ x ∈ ds, GoodR W v x.1
  start : ds = [] → v = .slice none 0 0
  far : ∀ x ∈ ds, ∀ R, R < B → Fr.Off R (.slice x.1.nu.1 (Fr.dig x.1.p).length x.1.nu.2) ∧ Fr.Off R (.slice x.1.de.1 (Fr.dig x.1.q).length x.1.de.2)
theorem HtRow.nil0 (B : Nat) (W : World) : HtRow B W (.slice none 0 0) [] := ⟨World.ownsRow_nil _ _ _ _, fun _ h => absurd h (by simp), fun _ => rfl, fun _ h => absurd h (by simp)⟩
theorem HtRow.later {B : Nat} {W W' : World} {v : Value} {ds : List Mq} (h : HtRow B W v ds) (hb : Below W.heap.size W W') : HtRow B W' v ds :=
  ⟨own_at h.row fun b hbb => hb.block b (h.row.lt b hbb).2, fun x hx => (h.good x hx).later hb, h.start, h.far⟩
theorem HtRow.slice {B : Nat} {W : World} {v : Value} {ds : List Mq} (h : HtRow B W v ds) : ∃ a c, v = .slice a ds.length c := own_slice h.row
theorem encQ_push (ds : List Mq) (x : Mq) : flatK 6 (ds.length + 1) (encF encQ default (ds ++ [x])) = flatK 6 ds.length (encF encQ default ds) ++ encM x.1 := by
  refine (flat_push (fun i hi j hj => ?_) ?_).symm
  · simp [encF, List.getD, List.getElem?_append_left hi]
  · simp [encF, List.getD, List.range_succ, encQ, encM]
theorem HtRow.push {B : Nat} {W W' : World} {v : Value} {ds : List Mq} (h : HtRow B W v ds) {x : Mq} {p m cap : Nat} (hm : m = ds.length + 1)
    (hown : W'.ownsRow B 53 6 (.slice (some ⟨p, 0, none⟩) m cap) m (flatK 6 ds.length (encF encQ default ds) ++ encM x.1)) (hgr : W.grownBy W' v.ownBlock) (hat : v.ownBlock = some p ∨ p = W.heap.size)
    (hx : GoodR W v x.1) (hf : ∀ R, R < B → Fr.Off R (.slice x.1.nu.1 (Fr.dig x.1.p).length x.1.nu.2) ∧ Fr.Off R (.slice x.1.de.1 (Fr.dig x.1.q).length x.1.de.2)) : HtRow B W' (.slice (some ⟨p, 0, none⟩) m cap) (ds ++ [x]) := by
  refine ⟨?_, ?_, fun e => by simp at e, ?_⟩
  · rw [List.length_append, List.length_singleton, encQ_push, ← hm]
    exact hown
  · intro y hy
    rcases List.mem_append.1 hy with h1 | h1
    · exact (h.good y h1).grown hgr hat
    · rw [List.mem_singleton.1 h1]; exact hx.grown hgr hat
  · intro y hy
    rcases List.mem_append.1 hy with h1 | h1
    · exact h.far y h1
    · rw [List.mem_singleton.1 h1]; exact hf
theorem HtRow.set {B : Nat} {W : World} {v : Value} {ds : List Mq} (h : HtRow B W v ds) {x : Addr} (hx : x.block < B) (u : Value) : HtRow B (W.setCell x u) v ds := by
  refine ⟨own_at h.row fun b hbb => ?_, fun y hy => ?_, h.start, h.far⟩
  · have h1 := h.row.lt b hbb
    exact Below.heap_setCell _ _ _ _ (by omega)
  · have h1 := h.good y hy
    exact ⟨h1.nu.setCell (h.far y hy _ hx).1, h1.de.setCell (h.far y hy _ hx).2, h1.onu, h1.ode, h1.sml⟩
theorem HtRow.read {B : Nat} {W : World} {v : Value} {ds : List Mq} (h : HtRow B W v ds) : InK 6 W (fun b => B ≤ b ∧ b < W.heap.size) v ds.length (encF encQ default ds) := InK.more (inK_of_owns h.row) fun b hb => h.row.lt b hb
theorem info_hit : (Tryz.prog.info? 53).map (fun i => (i.zero, i.size, i.bytes)) = some (some (.agg #[.int .i64 0, .int .i64 0, .bool false, .slice none 0 0, .bool false, .slice none 0 0]), 6, 80) := by kernel_rfl
theorem encQ_at (ds : List Mq) {i : Nat} (hi : i < ds.length) (j : Nat) : encF encQ default ds i j = (encM (ds.getD i default).1).getD j (.bool false) := by
  simp [encF, encQ]
structure HtsOf (B : Nat) (W : World) (v : Value) (den : Nat → Nat → Nat) (cs : List Cv) (f : Nat → Nat) (H : List Nat) (ds : List Mq) : Prop where
  row : HtRow B W v ds
  of : HitsOf den cs f ds
  cols : ds.map (colQ cs) = H
theorem HtsOf.nil0 (B : Nat) (W : World) (den : Nat → Nat → Nat) (cs : List Cv) (f : Nat → Nat) : HtsOf B W (.slice none 0 0) den cs f [] [] := ⟨HtRow.nil0 B W, fun _ h => absurd h (by simp), rfl⟩
theorem HtsOf.later {B : Nat} {W W' : World} {v : Value} {den : Nat → Nat → Nat} {cs : List Cv} {f : Nat → Nat} {H : List Nat} {ds : List Mq} (h : HtsOf B W v den cs f H ds) (hb : Below W.heap.size W W') : HtsOf B W' v den cs f H ds := ⟨h.row.later hb, h.of, h.cols⟩
theorem HtsOf.set {B : Nat} {W : World} {v : Value} {den : Nat → Nat → Nat} {cs : List Cv} {f : Nat → Nat} {H : List Nat} {ds : List Mq} (h : HtsOf B W v den cs f H ds) {x : Addr} (hx : x.block < B) (u : Value) : HtsOf B (W.setCell x u) v den cs f H ds := ⟨h.row.set hx u, h.of, h.cols⟩
theorem HtsOf.len {B : Nat} {W : World} {v : Value} {den : Nat → Nat → Nat} {cs : List Cv} {f : Nat → Nat} {H : List Nat} {ds : List Mq} (h : HtsOf B W v den cs f H ds) : ds.length = H.length := by rw [← h.cols, List.length_map]
theorem HtsOf.push {B : Nat} {W W' : World} {v : Value} {den : Nat → Nat → Nat} {cs : List Cv} {f : Nat → Nat} {H : List Nat} {ds : List Mq} (h : HtsOf B W v den cs f H ds) (hk : CvsOk cs) {c : Nat} {x : Mq} {p m cap : Nat} (hm : m = ds.length + 1)
    (hown : W'.ownsRow B 53 6 (.slice (some ⟨p, 0, none⟩) m cap) m (flatK 6 ds.length (encF encQ default ds) ++ encM x.1)) (hgr : W.grownBy W' v.ownBlock) (hat : v.ownBlock = some p ∨ p = W.heap.size)
    (hx : GoodR W v x.1) (hf : ∀ R, R < B → Fr.Off R (.slice x.1.nu.1 (Fr.dig x.1.p).length x.1.nu.2) ∧ Fr.Off R (.slice x.1.de.1 (Fr.dig x.1.q).length x.1.de.2)) (hi : IsHit den cs f c x.1) : HtsOf B W' (.slice (some ⟨p, 0, none⟩) m cap) den cs f (H ++ [c]) (ds ++ [x]) := by
  have hc := colQ_eq hk hi
  refine ⟨h.row.push hm hown hgr hat hx hf, fun y hy => ?_, by rw [List.map_append, h.cols, List.map_cons, List.map_nil, hc]⟩
  rcases List.mem_append.1 hy with h1 | h1
  · exact h.of y h1
  · rw [List.mem_singleton.1 h1, hc]; exact hi
theorem HtsOf.sorted {B : Nat} {W W' : World} {b n c : Nat} {den : Nat → Nat → Nat} {cs : List Cv} {f : Nat → Nat} {H : List Nat} {ds ds' : List Mq} (h : HtsOf B W (.slice (some ⟨b, 0, none⟩) n c) den cs f H ds) (hk : CvsOk cs) (hn : H.Nodup) (hl : ds.length = n)
    (hp : ds'.Perm ds) (hs : ds'.Pairwise (fun a b => leM b.1 a.1 ∧ (leM a.1 b.1 → ¬ ltRf b.1 a.1))) (hrow : W'.ownsRow B 53 6 (.slice (some ⟨b, 0, none⟩) n c) n (flatK 6 n (encF encQ default ds'))) (hb : Bar W b W') :
    ∃ H' : List Nat, H'.Perm H ∧ H'.Pairwise (befH den (sizeC cs) f) ∧ HtsOf B W' (.slice (some ⟨b, 0, none⟩) n c) den cs f H' ds' := by
  have hp' : (ds'.map (colQ cs)).Perm H := by rw [← h.cols]; exact hp.map _
  have hof : HitsOf den cs f ds' := fun x hx => h.of x (hp.mem_iff.1 hx)
  refine ⟨ds'.map (colQ cs), hp', hits_bef hk hof hs (hp'.nodup_iff.2 hn), ⟨?_, ?_, ?_, fun x hx => h.row.far x (hp.mem_iff.1 hx)⟩, hof, rfl⟩
  · rw [hp.length_eq, hl]; exact hrow
  · exact fun x hx => (h.row.good x (hp.mem_iff.1 hx)).m.later hb
  · intro e
    have h0 := hp.length_eq
    rw [e] at h0
    have h1 := h.row.start (List.eq_nil_of_length_eq_zero h0.symm)
    simp at h1
end Go.Proofs.YtikiimlmoalbcaaGreatDoor

namespace Go.Proofs
open Go.Shelf
def Tryz.sortR_ren : Go.Shelf.Ren := ⟨fun | 5 => 187 | 8 => 160 | 7 => 217 | 19 => 197 | 20 => 198 | 10 => 235 | 11 => 236 | 12 => 237 | 13 => 238 | 14 => 239 | 15 => 240 | 16 => 129 | 17 => 241 | 18 => 242 | 30 => 253 | 31 => 219 | 32 => 220 | 33 => 254 | 34 => 255 | 35 => 171 | 40 => 261 | n => n, fun | 23 => 34 | 25 => 3 | 3 => 3 | 32 => 161 | 22 => 34 | 0 => 0 | 44 => 132 | 46 => 159 | 4 => 4 | 36 => 217 | 35 => 216 | 41 => 106 | 5 => 5 | 9 => 9 | 53 => 239 | 57 => 243 | 63 => 256 | 64 => 59 | n => n, fun | n => n⟩
theorem Tryz.sortR : Go.Proofs.SlLaysM.n5 Tryz.prog Tryz.sortR_ren := {
 mixed := by kernel_rfl
 f5 := ⟨Tryz.f187.name, by decide, Tryz.func187.trans (congrArg some (by kernel_rfl))⟩
 f7 := ⟨Tryz.f217.name, by decide, Tryz.func217.trans (congrArg some (by kernel_rfl))⟩
 f8 := Tryz.func160.trans (congrArg some (by kernel_rfl))
 f10 := ⟨Tryz.f235.name, by decide, Tryz.func235.trans (congrArg some (by kernel_rfl))⟩
 f11 := ⟨Tryz.f236.name, by decide, Tryz.func236.trans (congrArg some (by kernel_rfl))⟩
 f12 := ⟨Tryz.f237.name, by decide, Tryz.func237.trans (congrArg some (by kernel_rfl))⟩
 f13 := ⟨Tryz.f238.name, by decide, Tryz.func238.trans (congrArg some (by kernel_rfl))⟩
 f14 := ⟨Tryz.f239.name, by decide, Tryz.func239.trans (congrArg some (by kernel_rfl))⟩
 f15 := ⟨Tryz.f240.name, by decide, Tryz.func240.trans (congrArg some (by kernel_rfl))⟩
 f16 := ⟨Tryz.f129.name, by decide, Tryz.func129.trans (congrArg some (by kernel_rfl))⟩
 f17 := ⟨Tryz.f241.name, by decide, Tryz.func241.trans (congrArg some (by kernel_rfl))⟩
 f18 := ⟨Tryz.f242.name, by decide, Tryz.func242.trans (congrArg some (by kernel_rfl))⟩
 f19 := Tryz.func197.trans (congrArg some (by kernel_rfl))
 f20 := Tryz.func198.trans (congrArg some (by kernel_rfl))
 f30 := ⟨Tryz.f253.name, by decide, Tryz.func253.trans (congrArg some (by kernel_rfl))⟩
 f31 := Tryz.func219.trans (congrArg some (by kernel_rfl))
 f32 := Tryz.func220.trans (congrArg some (by kernel_rfl))
 f33 := ⟨Tryz.f254.name, by decide, Tryz.func254.trans (congrArg some (by kernel_rfl))⟩
 f34 := ⟨Tryz.f255.name, by decide, Tryz.func255.trans (congrArg some (by kernel_rfl))⟩
 f35 := ⟨Tryz.f171.name, by decide, Tryz.func171.trans (congrArg some (by kernel_rfl))⟩
 f40 := ⟨Tryz.f261.name, by decide, Tryz.func261.trans (congrArg some (by kernel_rfl))⟩
 t0 := Tryz.underlying0
 a0 := Tryz.isAgg0
 z0 := Tryz.sizeOf0
 v0 := Tryz.zeroValue0
 t3 := Tryz.underlying3
 a3 := Tryz.isAgg3
 z3 := Tryz.sizeOf3
 v3 := Tryz.zeroValue3
 t4 := Tryz.underlying4
 a4 := Tryz.isAgg4
 z4 := Tryz.sizeOf4
 v4 := Tryz.zeroValue4
 t5 := Tryz.underlying5
 a5 := Tryz.isAgg5
 z5 := Tryz.sizeOf5
 v5 := Tryz.zeroValue5
 t9 := Tryz.underlying9
 a9 := Tryz.isAgg9
 z9 := Tryz.sizeOf9
 v9 := Tryz.zeroValue9
 t22 := Tryz.underlying34
 a22 := Tryz.isAgg34
 z22 := Tryz.sizeOf34
 v22 := Tryz.zeroValue34
 t23 := Tryz.underlying34
 a23 := Tryz.isAgg34
 z23 := Tryz.sizeOf34
 v23 := Tryz.zeroValue34
 t25 := Tryz.underlying3
 a25 := Tryz.isAgg3
 z25 := Tryz.sizeOf3
 v25 := Tryz.zeroValue3
 t32 := Tryz.underlying161
 a32 := Tryz.isAgg161
 z32 := Tryz.sizeOf161
 v32 := Tryz.zeroValue161
 t35 := Tryz.underlying216
 a35 := Tryz.isAgg216
 z35 := Tryz.sizeOf216
 v35 := Tryz.zeroValue216
 t36 := Tryz.underlying217
 a36 := Tryz.isAgg217
 z36 := Tryz.sizeOf217
 v36 := Tryz.zeroValue217
 t41 := Tryz.underlying106
 a41 := Tryz.isAgg106
 z41 := Tryz.sizeOf106
 v41 := Tryz.zeroValue106
 t44 := Tryz.underlying132
 a44 := Tryz.isAgg132
 z44 := Tryz.sizeOf132
 v44 := Tryz.zeroValue132
 t46 := Tryz.underlying159
 a46 := Tryz.isAgg159
 z46 := Tryz.sizeOf159
 v46 := Tryz.zeroValue159
 t53 := Tryz.underlying239
 a53 := Tryz.isAgg239
 z53 := Tryz.sizeOf239
 v53 := Tryz.zeroValue239
 t57 := Tryz.underlying243
 a57 := Tryz.isAgg243
 z57 := Tryz.sizeOf243
 v57 := Tryz.zeroValue243
 t63 := Tryz.underlying256
 a63 := Tryz.isAgg256
 z63 := Tryz.sizeOf256
 v63 := Tryz.zeroValue256
 t64 := Tryz.underlying59
 a64 := Tryz.isAgg59
 z64 := Tryz.sizeOf59
 v64 := Tryz.zeroValue59 }
def Tryz.collectR_ren : Go.Shelf.Ren := ⟨fun | 8 => 168 | 11 => 208 | n => n, fun | 26 => 9 | 28 => 170 | 24 => 27 | 0 => 0 | 33 => 174 | 4 => 4 | n => n, fun | n => n⟩
end Go.Proofs
