/- The reference's Int, Zero, Less at fractions that are not negative; boxes with fractions. Contracts of num.Zero, num.Sign, lists.Positive, lists.Scores and of the reference's Less, at short fractions. DERIVED: THE SHELF's CONTRACTS AT THIS DUMP, IN PLAIN WORDS (tools/lay-plain.mjs out of 'YtaajpliifdlokaaGreatDoorShOL.lean', which tools/lay-shelf.mjs wrote): THE SAME DECLARATIONS UNDER THE SAME NAMES: 'import', 'namespace', 'open', 'def', 'theorem' AND NOTHING ELSE: no command of the shelf's: FOR A HAND-IN. Each laying: the table of numbers ('.._ren') and one theorem, a field a fact of the dump's own or the kernel's comparison; each contract: ONE APPLICATION. Plain: what operations do one after another (chapter 38): filters can be exchanged, sorting is done once for all. No program in sight. Plain: what explain finds (chapter 38). No program in sight. Plain: what explain finds leads there, by no more operations (for ExplainLeads). Plain: what explain finds can be done, and is in normal form (for ExplainShape and ExplainLeads). Plain: the normal form of what explain finds (for ExplainShape). Plain: which table comes from which (chapter 39). No program in sight. Plain: ancestors and roots (chapter 39). No program in sight. Plain: LineageAlone and LineageGrows (chapter 39). No program in sight. Plain: LineageRight and LineageNearest (chapter 39). No program in sight. Words for operations, and lists of lists of them, in memory. No program in sight. Words for links, and for origins of tables, in memory. No program in sight. Contracts of lineage.cells, lineage.greater, at tables that can be read. Contracts of cmp.Compare, cmp.Or at three numbers, lineage.nearer. slices.MinFunc at origins: the first of the least. DERIVED: THE SHELF's CONTRACTS AT THIS DUMP, IN PLAIN WORDS (tools/lay-plain.mjs out of 'YtaajpliifdlokaaGreatDoorShQL.lean', which tools/lay-shelf.mjs wrote): THE SAME DECLARATIONS UNDER THE SAME NAMES: 'import', 'namespace', 'open', 'def', 'theorem' AND NOTHING ELSE: no command of the shelf's: FOR A HAND-IN. Each laying: the table of numbers ('.._ren') and one theorem, a field a fact of the dump's own or the kernel's comparison; each contract: ONE APPLICATION. -/
import Derived.Test.YtaajpliifdlokaaGreatDoorGGram
import Derived.Test.YtaajpliifdlokaaGreatDoorGGrax
import Derived.Test.YtaajpliifdlokaaGreatDoorGGraj
import Derived.Shelf.SortM.Plain
import Derived.Shelf.SortM.SortNone
import Derived.Ground.SlgmProg
import Derived.Test.YtaajpliifdlokaaGreatDoorProg
import Derived.Test.YtaajpliifdlokaaGreatDoorGGrag
import Derived.Test.YtaajpliifdlokaaGreatDoorGGran
import Derived.Test.YtaajpliifdlokaaGreatDoorGGrap
import Derived.Test.YtaajpliifdlokaaGreatDoorGGrao
import Derived.Deep.RegionHeld3
import Derived.Shelf.SlSortCmp.WholeK
import Derived.Ground.SlsfProg
set_option linter.unusedVariables false
set_option linter.unusedSimpArgs false
namespace Go.Proofs.YtaajpliifdlokaaGreatDoor.Fr
open Go.RowKit
theorem small_pow {n : Nat} (h : n < 4294967296) : n < 4294967296 ^ 256 :=
  Nat.lt_of_lt_of_le h (by have := Nat.pow_le_pow_right (n := 4294967296) (by omega) (show 1 ≤ 256 by omega); rwa [Nat.pow_one] at this)
theorem okF_of {c d : Nat} (hd : 0 < d) (hc : c < 4294967296) (hd2 : d < 4294967296) : OkF false (c / Nat.gcd c d) (d / Nat.gcd c d) where
  pos := Nat.div_pos (Nat.gcd_le_right _ hd) (Nat.gcd_pos_of_pos_right _ hd)
  low := by
    have h := Nat.gcd_div (Nat.gcd_dvd_left c d) (Nat.gcd_dvd_right c d)
    rw [h, Nat.div_self (Nat.gcd_pos_of_pos_right _ hd)]
  sign := fun _ => rfl
  num := small_pow (Nat.lt_of_le_of_lt (Nat.div_le_self _ _) hc)
  den := small_pow (Nat.lt_of_le_of_lt (Nat.div_le_self _ _) hd2)
def FrB (W : World) (b : Nat) (u v : Value) (p q : Nat) : Prop := BoxN W b 33 #[.bool false, u, .bool false, v] ∧ RdF W (.agg #[.bool false, u, .bool false, v]) false p q
theorem FrB.below {W W' : World} {b : Nat} {u v : Value} {p q : Nat} (h : FrB W b u v p q) (hb : Below W.heap.size W W') : FrB W' b u v p q := ⟨h.1.below hb h.1.lt, h.2.kept hb⟩
theorem FrB.new {W : World} {u v : Value} {p q : Nat} (h : RdF W (.agg #[.bool false, u, .bool false, v]) false p q) : FrB (W.alloc (.cells #[.bool false, u, .bool false, v] 33)) W.heap.size u v p q :=
  ⟨BoxN.new W _ _, h.kept ((Below.refl _ _).alloc (Nat.le_refl _) _)⟩
end Go.Proofs.YtaajpliifdlokaaGreatDoor.Fr
namespace Go.Proofs.YtaajpliifdlokaaGreatDoor
open Go.RowKit
def TaB (W : World) (b : Nat) (id : Int) (nm : ByteArray) (v : Value) (xs : List Co) : Prop := BoxN W b 51 #[.int .i64 id, .string nm, v] ∧ RdCo W (· < W.heap.size) v xs
theorem TaB.below {W W' : World} {b : Nat} {id : Int} {nm : ByteArray} {v : Value} {xs : List Co} (h : TaB W b id nm v xs) (hb : Below W.heap.size W W') : TaB W' b id nm v xs :=
  ⟨h.1.below hb h.1.lt, (h.2.keep fun p (hp : p.block < W.heap.size) => hb.cell (p := p) hp).more fun b hb' => Nat.lt_of_lt_of_le hb' hb.size⟩
structure OrdSt (w W : World) (A B C : Nat) (va vb vc : Value) (nm nc : ByteArray) (xs ys zs : List Co) : Prop where
  bel : Below w.heap.size w W
  a : TaB W A 1 nm va xs
  b : TaB W B 2 ⟨#[]⟩ vb ys
  c : TaB W C 3 nc vc zs
theorem OrdSt.below {w W W' : World} {A B C : Nat} {va vb vc : Value} {nm nc : ByteArray} {xs ys zs : List Co} (h : OrdSt w W A B C va vb vc nm nc xs ys zs) (hb : Below W.heap.size W W') : OrdSt w W' A B C va vb vc nm nc xs ys zs :=
  ⟨h.bel.trans (hb.mono h.bel.size), h.a.below hb, h.b.below hb, h.c.below hb⟩
end Go.Proofs.YtaajpliifdlokaaGreatDoor

namespace Go.Proofs.YtaajpliifdlokaaGreatDoor.Fr
open Go.RowKit
theorem sml_one : Sml 0 1 := ⟨by omega, by omega, by omega, by decide⟩
theorem Sml.ok {p q : Nat} (h : Sml p q) : OkF false p q := ⟨h.pos, h.low, fun _ => rfl, small_pow h.num, small_pow h.den⟩
theorem sml_of {c d : Nat} (hd : 0 < d) (hc : c < 4294967296) (hd2 : d < 4294967296) : Sml (c / Nat.gcd c d) (d / Nat.gcd c d) :=
  ⟨Nat.lt_of_le_of_lt (Nat.div_le_self _ _) hc, (okF_of hd hc hd2).pos, Nat.lt_of_le_of_lt (Nat.div_le_self _ _) hd2, (okF_of hd hc hd2).low⟩
set_option maxRecDepth 100000 in
set_option maxHeartbeats 1000000 in
theorem num_Zero (w : World) : Calls Tryz.prog 78 #[] w (GivesF w false 0 1) := by
  have HOF : Hid (∀ W, Calls Tryz.prog 83 #[.int .i64 0, .int .i64 1] W (GivesFE W false 0 1 (.int .i64 0))) := hid (fun W => by
    have h := frac_Of1 0 1 W (by omega) (by omega) (by omega)
    simp only [Nat.zero_div, Nat.gcd_one_right, Nat.div_one] at h
    exact h)
  go_enter Tryz.func78, Tryz.ntmps78
  go_wp2_with fail
  refine (HOF.out _).mono ?_
  rintro e w3 ⟨a3, c3, a4, c4, rfl, hN, hb3⟩
  have HN := hid hN
  have HB3 := hid hb3
  have hz3 := hb3.size
  have m0 := cell_later hb3 (a := ⟨w.heap.size, 0, none⟩) (v := .bool false) (by go_cell)
  have m1 := cell_later hb3 (a := ⟨w.heap.size, 1, none⟩) (v := .slice none 0 0) (by go_cell)
  have m2 := cell_later hb3 (a := ⟨w.heap.size, 2, none⟩) (v := .bool false) (by go_cell)
  have m3 := cell_later hb3 (a := ⟨w.heap.size, 3, none⟩) (v := .slice none 0 0) (by go_cell)
  have fm0 := frozen_later hb3 (a := ⟨w.heap.size, 0, none⟩) (v := .bool false) (by go_cell) (by simp [go_sem])
  have fm1 := frozen_later hb3 (a := ⟨w.heap.size, 1, none⟩) (v := .slice none 0 0) (by go_cell) (by simp [go_sem])
  have fm2 := frozen_later hb3 (a := ⟨w.heap.size, 2, none⟩) (v := .bool false) (by go_cell) (by simp [go_sem])
  have fm3 := frozen_later hb3 (a := ⟨w.heap.size, 3, none⟩) (v := .slice none 0 0) (by go_cell) (by simp [go_sem])
  clear hN hb3
  simp at hz3
  have hlt : w.heap.size < w3.heap.size := by omega
  have hne : w.heap.size ≠ w3.heap.size := by omega
  go_wp2
  refine bodyPost_ret (by simp [results, Tryz.results78, go_sem, m0, m1, m2, m3, hne, hlt]; rfl) rfl ?_
  exact ⟨a3, c3, a4, c4, by first | rfl | simp, (((((HN.out.setCell (by simp)).setCell (by simp)).setCell (by simp)).setCell (by simp)).kept ((Below.refl _ _).alloc (Nat.le_refl _) _)).mono (by simp), by have h3 := HB3.out; repeat' (first | (with_reducible exact Below.refl _ _) | (with_reducible assumption) | (with_reducible refine below_drewN ?_) | (with_reducible refine Below.alloc ?_ ?_ _) | (with_reducible refine Below.drew ?_) | (with_reducible refine Below.setCell ?_ ?_ _) | (with_reducible refine Below.trans ?_ (Below.mono (by with_reducible assumption) ?_)) | go_size)⟩
set_option maxRecDepth 100000 in
set_option maxHeartbeats 1000000 in
theorem num_Sign (u : Value) (p q : Nat) (w : World) (hu : RdF w u false p q) (s : Sml p q) (h1 : OneAt w) : Calls Tryz.prog 39 #[u] w (Ret w (.int .i64 (sgn p 0))) := by
  have HCM := hid (fun W v (hW : Below w.heap.size w W) (hv : RdF W v false 0 1) => frac_Cmp u v p q 0 1 W (hu.kept hW) hv s sml_one (h1.below hW))
  simp only [Nat.mul_one, Nat.zero_mul] at HCM
  have HZE := hid (fun W => num_Zero W)
  obtain ⟨a1, c1, b1, d1, rfl, -, -⟩ := hu
  clear s h1
  generalize sgn p 0 = sg at *
  generalize (dig p).length = l1 at *
  generalize (dig q).length = k1 at *
  have HX := hid (BoxN.new w #[.bool false, .slice a1 l1 c1, .bool false, .slice b1 k1 d1] 33)
  have HB0 := hid ((Below.refl w.heap.size w).alloc (Nat.le_refl _) (.cells #[.bool false, .slice a1 l1 c1, .bool false, .slice b1 k1 d1] 33))
  go_enter Tryz.func39, Tryz.ntmps39
  go_upto_region 1 with fail
  generalize w.alloc (.cells #[.bool false, .slice a1 l1 c1, .bool false, .slice b1 k1 d1] 33) = W0 at *
  have HG := hid (fun W (hW : Below W0.heap.size W0 W) => (⟨(HX.out.below hW HX.out.lt).cell 0 rfl, (HX.out.below hW HX.out.lt).cell 1 rfl, (HX.out.below hW HX.out.lt).cell 2 rfl, (HX.out.below hW HX.out.lt).cell 3 rfl⟩ : W.cell? ⟨w.heap.size, 0, none⟩ = some (.bool false) ∧ W.cell? ⟨w.heap.size, 1, none⟩ = some (.slice a1 l1 c1) ∧ W.cell? ⟨w.heap.size, 2, none⟩ = some (.bool false) ∧ W.cell? ⟨w.heap.size, 3, none⟩ = some (.slice b1 k1 d1)))
  have HC := hid (show Below W0.heap.size W0 W0.drew by have h1 := Below.refl W0.heap.size W0; repeat' (first | (with_reducible exact Below.refl _ _) | (with_reducible assumption) | (with_reducible refine below_drewN ?_) | (with_reducible refine Below.alloc ?_ ?_ _) | (with_reducible refine Below.drew ?_) | (with_reducible refine Below.setCell ?_ ?_ _) | (with_reducible refine Below.trans ?_ (Below.mono (by with_reducible assumption) ?_)) | go_size))
  go_region_held3 (fun w' => w'.cell? ⟨w.heap.size, 0, none⟩ = some (.bool false) ∧ w'.cell? ⟨w.heap.size, 1, none⟩ = some (.slice a1 l1 c1) ∧ w'.cell? ⟨w.heap.size, 2, none⟩ = some (.bool false) ∧ w'.cell? ⟨w.heap.size, 3, none⟩ = some (.slice b1 k1 d1))
    (first | exact HG.out _ HC.out | go_keep)
    (first
      | (go_at_call 78; go_must ((with_reducible refine (HZE.out _).mono ?_); rintro e w5 ⟨a5, c5, b5, d5, rfl, hN, hb5⟩; have HC := hid (belowT HC.out hb5); have HN := hid (hN.rd false); clear hN hb5))
      | (go_at_call 40; go_must ((with_reducible refine (HCM.out _ _ (belowT HB0.out HC.out) HN.out).mono ?_); rintro e w6 ⟨rfl, hb6⟩; have HC := hid (belowT HC.out hb6); clear hb6)))
  all_goals
    go_wp2
    go_ret
    exact ⟨rfl, belowT HB0.out HC.out⟩
end Go.Proofs.YtaajpliifdlokaaGreatDoor.Fr

namespace Go.Proofs
open Go.Shelf
def Tryz.sortInt_ren : Go.Shelf.Ren := ⟨fun | 5 => 53 | 8 => 90 | 7 => 97 | 19 => 144 | 20 => 145 | 10 => 150 | 11 => 151 | 12 => 152 | 13 => 153 | 14 => 154 | 15 => 155 | 16 => 156 | 17 => 157 | 18 => 158 | 30 => 205 | 31 => 200 | 32 => 201 | 33 => 206 | 34 => 207 | 35 => 106 | 40 => 235 | n => n, fun | 23 => 22 | 25 => 3 | 3 => 3 | 32 => 135 | 22 => 22 | 0 => 0 | 44 => 159 | 46 => 157 | 4 => 4 | 36 => 173 | 35 => 172 | 41 => 66 | 5 => 5 | 9 => 9 | 53 => 215 | 57 => 219 | 63 => 248 | 64 => 249 | n => n, fun | n => n⟩
theorem Tryz.sortInt : Go.Proofs.SlLaysM.n5 Tryz.prog Tryz.sortInt_ren := {
 mixed := by kernel_rfl
 f5 := ⟨Tryz.f53.name, by decide, Tryz.func53.trans (congrArg some (by kernel_rfl))⟩
 f7 := ⟨Tryz.f97.name, by decide, Tryz.func97.trans (congrArg some (by kernel_rfl))⟩
 f8 := Tryz.func90.trans (congrArg some (by kernel_rfl))
 f10 := ⟨Tryz.f150.name, by decide, Tryz.func150.trans (congrArg some (by kernel_rfl))⟩
 f11 := ⟨Tryz.f151.name, by decide, Tryz.func151.trans (congrArg some (by kernel_rfl))⟩
 f12 := ⟨Tryz.f152.name, by decide, Tryz.func152.trans (congrArg some (by kernel_rfl))⟩
 f13 := ⟨Tryz.f153.name, by decide, Tryz.func153.trans (congrArg some (by kernel_rfl))⟩
 f14 := ⟨Tryz.f154.name, by decide, Tryz.func154.trans (congrArg some (by kernel_rfl))⟩
 f15 := ⟨Tryz.f155.name, by decide, Tryz.func155.trans (congrArg some (by kernel_rfl))⟩
 f16 := ⟨Tryz.f156.name, by decide, Tryz.func156.trans (congrArg some (by kernel_rfl))⟩
 f17 := ⟨Tryz.f157.name, by decide, Tryz.func157.trans (congrArg some (by kernel_rfl))⟩
 f18 := ⟨Tryz.f158.name, by decide, Tryz.func158.trans (congrArg some (by kernel_rfl))⟩
 f19 := Tryz.func144.trans (congrArg some (by kernel_rfl))
 f20 := Tryz.func145.trans (congrArg some (by kernel_rfl))
 f30 := ⟨Tryz.f205.name, by decide, Tryz.func205.trans (congrArg some (by kernel_rfl))⟩
 f31 := Tryz.func200.trans (congrArg some (by kernel_rfl))
 f32 := Tryz.func201.trans (congrArg some (by kernel_rfl))
 f33 := ⟨Tryz.f206.name, by decide, Tryz.func206.trans (congrArg some (by kernel_rfl))⟩
 f34 := ⟨Tryz.f207.name, by decide, Tryz.func207.trans (congrArg some (by kernel_rfl))⟩
 f35 := ⟨Tryz.f106.name, by decide, Tryz.func106.trans (congrArg some (by kernel_rfl))⟩
 f40 := ⟨Tryz.f235.name, by decide, Tryz.func235.trans (congrArg some (by kernel_rfl))⟩
 t0 := Tryz.underlying0
 a0 := Tryz.isAgg0
 z0 := Tryz.sizeOf0
 v0 := Tryz.zeroValue0
 t3 := Tryz.underlying3
 a3 := Tryz.isAgg3
 z3 := Tryz.sizeOf3
 v3 := Tryz.zeroValue3
 t4 := Tryz.underlying4
 a4 := Tryz.isAgg4
 z4 := Tryz.sizeOf4
 v4 := Tryz.zeroValue4
 t5 := Tryz.underlying5
 a5 := Tryz.isAgg5
 z5 := Tryz.sizeOf5
 v5 := Tryz.zeroValue5
 t9 := Tryz.underlying9
 a9 := Tryz.isAgg9
 z9 := Tryz.sizeOf9
 v9 := Tryz.zeroValue9
 t22 := Tryz.underlying22
 a22 := Tryz.isAgg22
 z22 := Tryz.sizeOf22
 v22 := Tryz.zeroValue22
 t23 := Tryz.underlying22
 a23 := Tryz.isAgg22
 z23 := Tryz.sizeOf22
 v23 := Tryz.zeroValue22
 t25 := Tryz.underlying3
 a25 := Tryz.isAgg3
 z25 := Tryz.sizeOf3
 v25 := Tryz.zeroValue3
 t32 := Tryz.underlying135
 a32 := Tryz.isAgg135
 z32 := Tryz.sizeOf135
 v32 := Tryz.zeroValue135
 t35 := Tryz.underlying172
 a35 := Tryz.isAgg172
 z35 := Tryz.sizeOf172
 v35 := Tryz.zeroValue172
 t36 := Tryz.underlying173
 a36 := Tryz.isAgg173
 z36 := Tryz.sizeOf173
 v36 := Tryz.zeroValue173
 t41 := Tryz.underlying66
 a41 := Tryz.isAgg66
 z41 := Tryz.sizeOf66
 v41 := Tryz.zeroValue66
 t44 := Tryz.underlying159
 a44 := Tryz.isAgg159
 z44 := Tryz.sizeOf159
 v44 := Tryz.zeroValue159
 t46 := Tryz.underlying157
 a46 := Tryz.isAgg157
 z46 := Tryz.sizeOf157
 v46 := Tryz.zeroValue157
 t53 := Tryz.underlying215
 a53 := Tryz.isAgg215
 z53 := Tryz.sizeOf215
 v53 := Tryz.zeroValue215
 t57 := Tryz.underlying219
 a57 := Tryz.isAgg219
 z57 := Tryz.sizeOf219
 v57 := Tryz.zeroValue219
 t63 := Tryz.underlying248
 a63 := Tryz.isAgg248
 z63 := Tryz.sizeOf248
 v63 := Tryz.zeroValue248
 t64 := Tryz.underlying249
 a64 := Tryz.isAgg249
 z64 := Tryz.sizeOf249
 v64 := Tryz.zeroValue249 }
end Go.Proofs

namespace Go.Proofs.YtaajpliifdlokaaGreatDoor
open Go.RowKit
theorem selL_len (xs : List Co) (rs : List Nat) : (selL xs rs).length = xs.length := by simp [selL]
def keepF (xs : List Co) (o : Po) (r : Nat) : Bool := if o.kind = 1 then !(cellAt xs o.col.toNat r).null && decide ((cellAt xs o.col.toNat r).text = o.text) else !(cellAt xs o.col.toNat r).null
def leR (xs : List Co) (c a b : Nat) : Prop := ¬ 0 < cmpC (cellAt xs c a) (cellAt xs c b)
end Go.Proofs.YtaajpliifdlokaaGreatDoor

namespace Go.Proofs.YtaajpliifdlokaaGreatDoor
open Go.RowKit
instance : DecidableEq Co := fun a b => decidable_of_iff (a.name = b.name ∧ a.cells = b.cells) (by cases a; cases b; simp)
def opEq (k : Nat) (s : ByteArray) : Po := ⟨1, (k : Int), s, []⟩
def opFull (k : Nat) : Po := ⟨2, (k : Int), ⟨#[]⟩, []⟩
def opProj (ks : List Nat) : Po := ⟨3, 0, ⟨#[]⟩, ks.map fun (k : Nat) => (k : Int)⟩
def opDist : Po := ⟨4, 0, ⟨#[]⟩, []⟩
def opSort (k : Nat) : Po := ⟨5, (k : Int), ⟨#[]⟩, []⟩
def runL (xs : List Co) (os : List Po) : List Co := os.foldl doL xs
def hasC (c : Co) : List ByteArray := setOfL ((c.cells.filter fun x => !x.null).map Cl.text)
def filters1 (c : Co) (k : Nat) : List (List Po) := [opFull k] :: (hasC c).map fun s => [opEq k s]
def filtersL (xs : List Co) : List (List Po) := [] :: (List.range xs.length).flatMap fun k => filters1 (xs.getD k Co.z) k
def sortsL (n : Nat) : List (List Po) := [] :: (List.range n).map fun k => [opSort k]
def endsL (n : Nat) : List (List Po) := sortsL n ++ (sortsL n).map (opDist :: ·)
def fromL (a b : List Co) : List Nat := b.map fun c => idxN a c.name
def projOf (a b : List Co) : Option (List Po) :=
  if b.all (fun c => (namesL a).any fun s => decide (s = c.name)) = true then (if a.length = b.length ∧ fromL a b = List.range b.length then some [] else some [opProj (fromL a b)]) else none
def finderF (a b : List Co) (p : List Po) (most : Nat) (f : List Po) : Option (List Po) :=
  if most < f.length + p.length then none
  else if rowsC (runL a (f ++ p)) < rowsC b then none
  else (endsL b.length).findSome? fun e => if (f ++ p).length + e.length = most ∧ runL (runL a (f ++ p)) e = b then some (f ++ p ++ e) else none
def finderL (a b : List Co) (p : List Po) (most : Nat) : Option (List Po) := (filtersL a).findSome? (finderF a b p most)
def findL (a b : List Co) : Option (List Po) := match projOf a b with
  | none => none
  | some p => (List.range 5).findSome? (finderL a b p)
end Go.Proofs.YtaajpliifdlokaaGreatDoor

namespace Go.Proofs.YtaajpliifdlokaaGreatDoor
open Go.RowKit
end Go.Proofs.YtaajpliifdlokaaGreatDoor

namespace Go.Proofs.YtaajpliifdlokaaGreatDoor
open Go.RowKit
def canRun : List Co → List Po → Bool
  | _, [] => true
  | xs, o :: os => canL xs.length o && canRun (doL xs o) os
end Go.Proofs.YtaajpliifdlokaaGreatDoor

namespace Go.Proofs.YtaajpliifdlokaaGreatDoor
open Go.RowKit
def rankP (k : Int) : Nat := if k = 1 ∨ k = 2 then 1 else if k = 3 then 2 else if k = 4 then 3 else if k = 5 then 4 else 0
end Go.Proofs.YtaajpliifdlokaaGreatDoor

namespace Go.Proofs.YtaajpliifdlokaaGreatDoor
open Go.RowKit
structure Lk where
  src : Int
  dst : Int
  ops : List Po
def cellsT (t : Ta) : Nat := rowsC t.cols * t.cols.length
def grT (a b : Ta) : Bool := decide (cellsT b < cellsT a) || (decide (cellsT a = cellsT b) && decide (a.id < b.id))
def origO (b a : Ta) : Option (Ta × List Po) := if grT a b = true then (findL a.cols b.cols).map fun os => (a, os) else none
def fromsL (l : List Ta) (b : Ta) : List (Ta × List Po) := l.filterMap (origO b)
def cmpN (a b : Nat) : Int := if a < b then -1 else if a = b then 0 else 1
def cmpI (a b : Int) : Int := if a < b then -1 else if a = b then 0 else 1
def nearO (x y : Ta × List Po) : Int :=
  if cmpN x.2.length y.2.length ≠ 0 then cmpN x.2.length y.2.length else if cmpN (cellsT x.1) (cellsT y.1) ≠ 0 then cmpN (cellsT x.1) (cellsT y.1) else cmpI y.1.id x.1.id
def minO (x : Ta × List Po) (r : List (Ta × List Po)) : Ta × List Po := r.foldl (fun m y => if nearO y m < 0 then y else m) x
def linkO (l : List Ta) (b : Ta) : Option Lk := match fromsL l b with
  | [] => none
  | x :: r => some ⟨(minO x r).1.id, b.id, (minO x r).2⟩
def linksL (l : List Ta) : List Lk := l.filterMap (linkO l)
end Go.Proofs.YtaajpliifdlokaaGreatDoor

namespace Go.Proofs.YtaajpliifdlokaaGreatDoor
open Go.RowKit
def toL (x : List Lk) (id : Int) : Option Lk := x.find? fun y => decide (y.dst = id)
def ancL (x : List Lk) : Nat → List Int → List Int
  | 0, seen => seen
  | k + 1, seen => match toL x (seen.getLastD 0) with
    | none => seen
    | some y => if seen.any (fun i => decide (i = y.src)) = true then seen else ancL x k (seen ++ [y.src])
def upL (l : List Ta) : Ta → List Ta → Prop
  | _, [] => True
  | s, a :: r => a ∈ l ∧ grT a s = true ∧ (∃ y, linkO l s = some y ∧ y.src = a.id) ∧ upL l a r
end Go.Proofs.YtaajpliifdlokaaGreatDoor

namespace Go.Proofs.YtaajpliifdlokaaGreatDoor
open Go.RowKit
end Go.Proofs.YtaajpliifdlokaaGreatDoor

namespace Go.Proofs.YtaajpliifdlokaaGreatDoor
open Go.RowKit
def rootsT (l : List Ta) : List Ta := l.filter fun b => (linkO l b).isNone
end Go.Proofs.YtaajpliifdlokaaGreatDoor

namespace Go.Proofs.YtaajpliifdlokaaGreatDoor
open Go.RowKit
def Po.z : Po := ⟨0, 0, ⟨#[]⟩, []⟩
def zF (ks : List Int) (j _i : Nat) : Value := .int .i64 (ks.getD j 0)
def poC (o : Po) (u : Value) : Nat → Value
  | 0 => .int .i64 o.kind
  | 1 => .int .i64 o.col
  | 2 => .string o.text
  | _ => u
def poF (os : List Po) (uv : Nat → Value) (i : Nat) : Nat → Value := poC (os.getD i Po.z) (uv i)
def RdKs (w : World) (S : Nat → Prop) (v : Value) (ks : List Int) : Prop := InK 1 w S v ks.length (zF ks)
def RdPo (w : World) (S : Nat → Prop) (v : Value) (os : List Po) : Prop :=
  ∃ uv, InK 4 w S v os.length (poF os uv) ∧ ∀ i, i < os.length → RdKs w S (uv i) (os.getD i Po.z).cols
def vF (vv : Nat → Value) (i _j : Nat) : Value := vv i
def RdPs (w : World) (S : Nat → Prop) (v : Value) (fs : List (List Po)) : Prop :=
  ∃ vv, InK 1 w S v fs.length (vF vv) ∧ ∀ i, i < fs.length → RdPo w S (vv i) (fs.getD i [])
section
variable {w w' : World} {S S' : Nat → Prop} {v : Value} {ks : List Int} {os : List Po} {fs : List (List Po)}
theorem RdPo.keep (h : RdPo w S v os) (hk : ∀ p : Addr, S p.block → w'.cell? p = w.cell? p) : RdPo w' S v os := by
  obtain ⟨uv, h1, h2⟩ := h
  exact ⟨uv, h1.keep hk, fun i hi => InK.keep (h2 i hi) hk⟩
theorem RdPo.more (h : RdPo w S v os) (hS : ∀ b, S b → S' b) : RdPo w S' v os := by
  obtain ⟨uv, h1, h2⟩ := h
  exact ⟨uv, h1.more hS, fun i hi => InK.more (h2 i hi) hS⟩
theorem RdPs.keep (h : RdPs w S v fs) (hk : ∀ p : Addr, S p.block → w'.cell? p = w.cell? p) : RdPs w' S v fs := by
  obtain ⟨uv, h1, h2⟩ := h
  exact ⟨uv, h1.keep hk, fun i hi => (h2 i hi).keep hk⟩
theorem RdPs.more (h : RdPs w S v fs) (hS : ∀ b, S b → S' b) : RdPs w S' v fs := by
  obtain ⟨uv, h1, h2⟩ := h
  exact ⟨uv, h1.more hS, fun i hi => (h2 i hi).more hS⟩
theorem RdPo.nil : RdPo w S (.slice none 0 0) [] := ⟨fun _ => .bool false, InK.nil, fun i hi => absurd hi (by simp)⟩
theorem RdPs.nil : RdPs w S (.slice none 0 0) [] := ⟨fun _ => .bool false, InK.nil, fun i hi => absurd hi (by simp)⟩
theorem RdKs.op {B : Nat} {o : Po} (h : RdKs w (· < B) v o.cols) : RdOp w B v o := InK.rd (f := intF o.cols) (InK.congr h fun _ _ _ _ => rfl) fun _ hb => hb
theorem keeps_po (v : Value) (os : List Po) : Keeps (fun w S => RdPo w S v os) := fun _ _ _ _ h hk hS => (h.keep hk).more hS
theorem keeps_ks (v : Value) (ks : List Int) : Keeps (fun w S => RdKs w S v ks) := fun _ _ _ _ h hk hS => InK.more (InK.keep h hk) hS
end
def PoSt (w : World) (base : Nat) (e : TypeId) (v : Value) (os : List Po) : Prop :=
  ∃ uv : Nat → Value, Nest 4 w base e v os.length (poF os uv) (fun i w S => RdKs w S (uv i) (os.getD i Po.z).cols)
def PsSt (w : World) (base : Nat) (e : TypeId) (v : Value) (fs : List (List Po)) : Prop :=
  ∃ vv : Nat → Value, Nest 1 w base e v fs.length (vF vv) (fun i w S => RdPo w S (vv i) (fs.getD i []))
section
variable {w w' : World} {base : Nat} {e : TypeId} {v : Value} {fs : List (List Po)}
theorem PsSt.start (hb : base ≤ w.heap.size) : PsSt w base e (.slice none 0 0) [] := ⟨fun _ => .bool false, Nest.start hb⟩
theorem PsSt.later (h : PsSt w base e v fs) (hb : Below w.heap.size w w') (h0 : 0 < base) : PsSt w' base e v fs := by
  obtain ⟨vv, h⟩ := h
  exact ⟨vv, h.below (fun i _ => keeps_po _ _) hb (Nat.le_refl _) h0⟩
theorem PsSt.drewN (h : PsSt w base e v fs) (m : Nat) : PsSt (w.drewN m) base e v fs := by
  obtain ⟨vv, h⟩ := h
  exact ⟨vv, h.drewN (fun i _ => keeps_po _ _) m⟩
theorem PsSt.alloc (h : PsSt w base e v fs) (O : Obj) : PsSt (w.alloc O) base e v fs := by
  obtain ⟨vv, h⟩ := h
  exact ⟨vv, h.alloc (fun i _ => keeps_po _ _) O⟩
theorem PsSt.owns (h : PsSt w base e v fs) : ∃ L, w.ownsRow base e 1 v fs.length L := by
  obtain ⟨vv, h⟩ := h
  exact ⟨_, h.row⟩
theorem PsSt.low (h : PsSt w base e v fs) : base ≤ w.heap.size := by
  obtain ⟨vv, h⟩ := h
  exact h.low
theorem PsSt.push (h : PsSt w base e v fs) {L : List Value} (hL : w.ownsRow base e 1 v fs.length L) {f : List Po} {u : Value} {g n cap : Nat} (hn : n = fs.length + 1)
    (hown : w'.ownsRow base e 1 (.slice (some ⟨g, 0, none⟩) n cap) n (L ++ [u])) (hg : w.grownBy w' v.ownBlock) (hat : v.ownBlock = some g ∨ g = w.heap.size)
    (hnew : RdPo w (Own w base v) u f) : PsSt w' base e (.slice (some ⟨g, 0, none⟩) n cap) (fs ++ [f]) := by
  obtain ⟨vv, h⟩ := h
  subst hn
  have hLL : L = flatK 1 fs.length (vF vv) := own_same hL h.row
  subst hLL
  refine ⟨fun i => if i = fs.length then u else vv i, ?_⟩
  rw [List.length_append, List.length_singleton]
  refine h.push (fun i _ => keeps_po _ _) hown hg hat ?_ (keeps_po _ _) ?_ ?_ ?_
  · simpa [List.getD] using hnew
  · intro i hi j hj
    have : i ≠ fs.length := by omega
    simp [vF, this]
  · simp [vF, List.range_succ]
  · intro i hi
    have : i ≠ fs.length := by omega
    simp [List.getD, List.getElem?_append_left hi, this]
theorem PsSt.read (h : PsSt w base e v fs) : RdPs w (fun b => base ≤ b ∧ b < w.heap.size) v fs := by
  obtain ⟨vv, h⟩ := h
  exact ⟨vv, (inK_of_owns h.row).more fun b hb => h.row.lt b hb, fun i hi => (h.kids i hi).more fun b hb => ⟨hb.1, hb.2.1⟩⟩
end
end Go.Proofs.YtaajpliifdlokaaGreatDoor

namespace Go.Proofs.YtaajpliifdlokaaGreatDoor
open Go.RowKit
def Lk.z : Lk := ⟨0, 0, []⟩
def lkF (xs : List Lk) (uv : Nat → Value) (i : Nat) : Nat → Value := three (.int .i64 (xs.getD i Lk.z).src) (.int .i64 (xs.getD i Lk.z).dst) (uv i)
def RdLk (w : World) (S : Nat → Prop) (v : Value) (xs : List Lk) : Prop :=
  ∃ uv, InK 3 w S v xs.length (lkF xs uv) ∧ ∀ i, i < xs.length → RdPo w S (uv i) (xs.getD i Lk.z).ops
def LkSt (w : World) (base : Nat) (e : TypeId) (v : Value) (xs : List Lk) : Prop :=
  ∃ uv : Nat → Value, Nest 3 w base e v xs.length (lkF xs uv) (fun i w S => RdPo w S (uv i) (xs.getD i Lk.z).ops)
section
variable {w w' : World} {S S' : Nat → Prop} {v : Value} {xs : List Lk} {base : Nat} {e : TypeId}
theorem RdLk.keep (h : RdLk w S v xs) (hk : ∀ p : Addr, S p.block → w'.cell? p = w.cell? p) : RdLk w' S v xs := by
  obtain ⟨uv, h1, h2⟩ := h
  exact ⟨uv, h1.keep hk, fun i hi => (h2 i hi).keep hk⟩
theorem RdLk.more (h : RdLk w S v xs) (hS : ∀ b, S b → S' b) : RdLk w S' v xs := by
  obtain ⟨uv, h1, h2⟩ := h
  exact ⟨uv, h1.more hS, fun i hi => (h2 i hi).more hS⟩
theorem RdLk.nil : RdLk w S (.slice none 0 0) [] := ⟨fun _ => .bool false, InK.nil, fun i hi => absurd hi (by simp)⟩
theorem RdLk.take {a : Option Addr} {n c : Nat} (h : RdLk w S (.slice a n c) xs) {q : Nat} (hq : q ≤ xs.length) : RdLk w S (.slice a q c) (xs.take q) := by
  obtain ⟨uv, ⟨a', c', e, h1, h2, h3⟩, h4⟩ := h
  obtain ⟨rfl, rfl, rfl⟩ := Value.slice.inj e
  have hl : (xs.take q).length = q := by rw [List.length_take]; omega
  refine ⟨uv, ?_, fun i hi => ?_⟩
  · rw [hl]
    refine ⟨a, c, rfl, by omega, h2, fun hp => ?_⟩
    obtain ⟨b, o, e1, h5, h6⟩ := h3 (by omega)
    refine ⟨b, o, e1, h5, fun i hi j hj => ?_⟩
    rw [h6 i (by omega) j hj]
    simp [lkF, List.getD, List.getElem?_take, hi]
  · rw [hl] at hi
    have : (xs.take q).getD i Lk.z = xs.getD i Lk.z := by simp [List.getD, List.getElem?_take, hi]
    rw [this]
    exact h4 i (by omega)
theorem LkSt.start (hb : base ≤ w.heap.size) : LkSt w base e (.slice none 0 0) [] := ⟨fun _ => .bool false, Nest.start hb⟩
theorem LkSt.later (h : LkSt w base e v xs) (hb : Below w.heap.size w w') (h0 : 0 < base) : LkSt w' base e v xs := by
  obtain ⟨uv, h⟩ := h
  exact ⟨uv, h.below (fun i _ => keeps_po _ _) hb (Nat.le_refl _) h0⟩
theorem LkSt.owns (h : LkSt w base e v xs) : ∃ L, w.ownsRow base e 3 v xs.length L := by
  obtain ⟨uv, h⟩ := h
  exact ⟨_, h.row⟩
theorem LkSt.low (h : LkSt w base e v xs) : base ≤ w.heap.size := by
  obtain ⟨uv, h⟩ := h
  exact h.low
theorem LkSt.read (h : LkSt w base e v xs) : RdLk w (fun b => base ≤ b ∧ b < w.heap.size) v xs := by
  obtain ⟨uv, h⟩ := h
  exact ⟨uv, (inK_of_owns h.row).more fun b hb => h.row.lt b hb, fun i hi => (h.kids i hi).more fun b hb => ⟨hb.1, hb.2.1⟩⟩
theorem LkSt.push (h : LkSt w base e v xs) {L : List Value} (hL : w.ownsRow base e 3 v xs.length L) {x : Lk} {u : Value} {g n cap : Nat} (hn : n = xs.length + 1)
    (hown : w'.ownsRow base e 3 (.slice (some ⟨g, 0, none⟩) n cap) n (L ++ [.int .i64 x.src, .int .i64 x.dst, u])) (hg : w.grownBy w' v.ownBlock) (hat : v.ownBlock = some g ∨ g = w.heap.size)
    (hnew : RdPo w (Own w base v) u x.ops) : LkSt w' base e (.slice (some ⟨g, 0, none⟩) n cap) (xs ++ [x]) := by
  obtain ⟨uv, h⟩ := h
  subst hn
  have hLL : L = flatK 3 xs.length (lkF xs uv) := own_same hL h.row
  subst hLL
  refine ⟨fun i => if i = xs.length then u else uv i, ?_⟩
  rw [List.length_append, List.length_singleton]
  refine h.push (fun i _ => keeps_po _ _) hown hg hat ?_ (keeps_po _ _) ?_ ?_ ?_
  · simpa [List.getD] using hnew
  · intro i hi j hj
    have h1 : i ≠ xs.length := by omega
    have h2 : (xs ++ [x]).getD i Lk.z = xs.getD i Lk.z := by simp [List.getD, List.getElem?_append_left hi]
    simp only [lkF, if_neg h1, h2]
  · simp [lkF, three, List.range_succ, List.getD]
  · intro i hi
    have h1 : i ≠ xs.length := by omega
    simp [List.getD, List.getElem?_append_left hi, h1]
end
def Or.z : Ta × List Po := (Ta.z, [])
def orC (x : Ta × List Po) (c u : Value) : Nat → Value
  | 0 => .int .i64 x.1.id
  | 1 => .string x.1.name
  | 2 => c
  | _ => u
def orF (os : List (Ta × List Po)) (cv uv : Nat → Value) (i : Nat) : Nat → Value := orC (os.getD i Or.z) (cv i) (uv i)
structure OrSt (w : World) (B base : Nat) (e : TypeId) (v : Value) (os : List (Ta × List Po)) (cv uv : Nat → Value) : Prop where
  row : w.ownsRow base e 4 v os.length (flatK 4 os.length (orF os cv uv))
  low : base ≤ w.heap.size
  cols : ∀ i, i < os.length → RdCo w (· < B) (cv i) (os.getD i Or.z).1.cols
  ops : ∀ i, i < os.length → RdPo w (Own w base v) (uv i) (os.getD i Or.z).2
section
variable {w w' : World} {B base : Nat} {e : TypeId} {v : Value} {os : List (Ta × List Po)} {cv uv : Nat → Value}
theorem OrSt.start (hb : base ≤ w.heap.size) : OrSt w B base e (.slice none 0 0) [] cv uv :=
  ⟨World.ownsRow_nil _ _ _ _, hb, fun i hi => absurd hi (by simp), fun i hi => absurd hi (by simp)⟩
theorem OrSt.later (h : OrSt w B base e v os cv uv) (hb : Below w.heap.size w w') (hB : B ≤ base) : OrSt w' B base e v os cv uv :=
  have hlo := h.low
  ⟨own_later h.row hb, Nat.le_trans h.low hb.size, fun i hi => (h.cols i hi).keep fun p (hp : p.block < B) => hb.cell (p := p) (by omega),
    fun i hi => ((h.ops i hi).keep fun p hp => hb.cell (p := p) hp.2.1).more fun b hb' => ⟨hb'.1, Nat.lt_of_lt_of_le hb'.2.1 hb.size, hb'.2.2⟩⟩
theorem OrSt.push (h : OrSt w B base e v os cv uv) (hB : B ≤ base) {x : Ta × List Po} {c u : Value} {g n cap : Nat} (hn : n = os.length + 1)
    (hown : w'.ownsRow base e 4 (.slice (some ⟨g, 0, none⟩) n cap) n (flatK 4 os.length (orF os cv uv) ++ [.int .i64 x.1.id, .string x.1.name, c, u])) (hg : w.grownBy w' v.ownBlock) (hat : v.ownBlock = some g ∨ g = w.heap.size)
    (hc : RdCo w (· < B) c x.1.cols) (hu : RdPo w (Own w base v) u x.2) :
    OrSt w' B base e (.slice (some ⟨g, 0, none⟩) n cap) (os ++ [x]) (fun i => if i = os.length then c else cv i) (fun i => if i = os.length then u else uv i) := by
  subst hn
  have hlo := h.low
  have hv : ∀ k, v.ownBlock = some k → base ≤ k := fun k hk => (h.row.lt k hk).1
  have hk1 : ∀ p : Addr, p.block < B → w'.cell? p = w.cell? p := fun p hp => World.cell?_of_block (hg.block _ (by omega) (fun e => by have := hv _ e.symm; omega))
  have hk2 : ∀ p : Addr, Own w base v p.block → w'.cell? p = w.cell? p := fun p hp => World.cell?_of_block (hg.block _ hp.2.1 (fun e => hp.2.2 e.symm))
  have hs : ∀ b, Own w base v b → Own w' base (.slice (some ⟨g, 0, none⟩) (os.length + 1) cap) b := fun b hb => ⟨hb.1, Nat.lt_of_lt_of_le hb.2.1 hg.size, fun e => by
    have e1 : g = b := by simpa [Value.ownBlock] using e
    subst e1
    rcases hat with h1 | h1
    · exact hb.2.2 h1
    · have := hb.2.1; omega⟩
  have ho : ∀ i, i < os.length → (os ++ [x]).getD i Or.z = os.getD i Or.z := fun i hi => by simp [List.getD, List.getElem?_append_left hi]
  have hx : (os ++ [x]).getD os.length Or.z = x := by simp [List.getD]
  refine ⟨?_, Nat.le_trans h.low hg.size, fun i hi => ?_, fun i hi => ?_⟩
  · rw [List.length_append, List.length_singleton, ← flat_push (f := orF os cv uv) (news := [.int .i64 x.1.id, .string x.1.name, c, u]) ?_ ?_]
    · exact hown
    · intro i hi j hj
      have h1 : i ≠ os.length := by omega
      simp only [orF, if_neg h1, ho i hi]
    · simp [orF, orC, List.range_succ, hx]
  · rw [List.length_append, List.length_singleton] at hi
    by_cases e1 : i = os.length
    · subst e1
      simp only [if_true, hx]
      exact hc.keep hk1
    · have hi' : i < os.length := by omega
      simp only [if_neg e1, ho i hi']
      exact (h.cols i hi').keep hk1
  · rw [List.length_append, List.length_singleton] at hi
    by_cases e1 : i = os.length
    · subst e1
      simp only [if_true, hx]
      exact (hu.keep hk2).more hs
    · have hi' : i < os.length := by omega
      simp only [if_neg e1, ho i hi']
      exact ((h.ops i hi').keep hk2).more hs
end
end Go.Proofs.YtaajpliifdlokaaGreatDoor

namespace Go.Proofs.YtaajpliifdlokaaGreatDoor
open Go.RowKit
def Cnt (xs : List Co) : Prop := xs.length ≤ 64 ∧ rowsC xs ≤ 4096
theorem TabV.cnt {t : Ta} (h : TabV t) : Cnt t.cols := by
  obtain ⟨-, -, -, hl, n, hn, hc⟩ := h
  refine ⟨hl, ?_⟩
  rcases Nat.eq_zero_or_pos t.cols.length with h0 | h0
  · rw [List.eq_nil_of_length_eq_zero h0]; exact Nat.zero_le _
  · rw [rowsC_of hc h0]; exact hn
theorem Cnt.cells {t : Ta} (h : Cnt t.cols) : cellsT t ≤ 262144 := by
  unfold cellsT
  exact Nat.mul_le_mul h.2 h.1
end Go.Proofs.YtaajpliifdlokaaGreatDoor

namespace Go.Proofs.YtaajpliifdlokaaGreatDoor
open Go.RowKit
def or3 (x y z : Int) : Int := if x ≠ 0 then x else if y ≠ 0 then y else z
end Go.Proofs.YtaajpliifdlokaaGreatDoor

namespace Go.Proofs.YtaajpliifdlokaaGreatDoor
open Go.RowKit
def mTo (os : List (Ta × List Po)) (q : Nat) : Ta × List Po := minO (os.getD 0 Or.z) ((os.drop 1).take q)
def orV (x : Ta × List Po) (c u : Value) : Value := .agg #[.int .i64 x.1.id, .string x.1.name, c, u]
def MinP (w : World) (os : List (Ta × List Po)) (cv uv : Nat → Value) (e : Ending) (w' : World) : Prop :=
  ∃ k, k < os.length ∧ os.getD k Or.z = mTo os (os.length - 1) ∧ e = .returned (orV (os.getD k Or.z) (cv k) (uv k)) ∧ Below w.heap.size w w'
end Go.Proofs.YtaajpliifdlokaaGreatDoor

namespace Go.Proofs
open Go.Shelf
def Tryz.sortLink_ren : Go.Shelf.Ren := ⟨fun | 6 => 63 | 15 => 90 | 14 => 105 | 28 => 144 | 29 => 145 | 20 => 173 | 21 => 174 | 22 => 175 | 23 => 176 | 24 => 177 | 25 => 178 | 26 => 179 | 27 => 180 | 46 => 222 | 47 => 200 | 48 => 201 | 49 => 223 | 50 => 224 | 57 => 252 | n => n, fun | 22 => 70 | 24 => 76 | 25 => 115 | 3 => 3 | 39 => 135 | 0 => 0 | 53 => 159 | 55 => 157 | 4 => 4 | 46 => 173 | 45 => 172 | 50 => 66 | 5 => 5 | 9 => 9 | 66 => 215 | 70 => 219 | 76 => 248 | 77 => 249 | n => n, fun | n => n⟩
end Go.Proofs
