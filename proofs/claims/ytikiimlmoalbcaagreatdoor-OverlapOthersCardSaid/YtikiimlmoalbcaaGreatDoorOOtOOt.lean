/- Proved: called with any arguments of its types, OverlapOthers returns true, and its arguments read as before. Go's own tables hold what the program's text lays, which the card ties; no other conditions. -/
import Derived.Test.YtikiimlmoalbcaaGreatDoorOOtbr
import Derived.Test.YtikiimlmoalbcaaGreatDoorOOtbs
import Derived.Test.YtikiimlmoalbcaaGreatDoorTie
import Derived.Test.YtikiimlmoalbcaaGreatDoorCards
import Derived.Carry
import Derived.SizedLaws
import Derived.ProofKit
import Derived.OpenShut
import Derived.ChangeSlices
import Derived.SliceStrings
import Derived.LaidLaws
import Derived.LaidMore
import Derived.Lib.LaidU8T
import Derived.PinnedBridge
import Derived.SevenTiedAt
import Derived.Test.YtikiimlmoalbcaaGreatDoorOOtae
import Derived.Test.YtikiimlmoalbcaaGreatDoorOOtaa
import Derived.Test.YtikiimlmoalbcaaGreatDoorOOtay
set_option linter.unusedVariables false
set_option linter.unusedSimpArgs false
namespace Go.Proofs.YtikiimlmoalbcaaGreatDoor
open Go.RowKit
theorem law19_othersS (sa : Option Addr) (sn sc N1 : Nat) (h1 : N1 < 256) (w : World) (hs : RdU w w.heap.size sa sn sc) (hT : Tabs w) (ho : Fr.OneAt w) :
    Calls Tryz.prog 5 #[.slice sa sn sc, .int .u8 (N1 : Int)] w (Ret w (.bool true)) :=
  law19_others (fun W _ ho => law19_sane W ho) sa sn sc N1 h1 w hs hT ho
end Go.Proofs.YtikiimlmoalbcaaGreatDoor

namespace Go.Proofs.YtikiimlmoalbcaaGreatDoor
open Go.ChangeShapes Go.WideShapes Go.ChangeAt Go.RowKit Go.Lib
set_option linter.unusedVariables false
theorem kOwn : ownKnob Tryz.prog.godebug = none := by kernel_rfl
theorem kLaid : laidOutB Tryz.prog = true := by kernel_rfl
theorem kCells : Tryz.prog.cellsOf 5 = 1 := by kernel_rfl
noncomputable def laidWorld (os : Os) : World :=
  let w0 := World.doorLaid Tryz.prog 400 os
  { w0 with heap := w0.heap.modify 2 fun
      | .cells _ t frozen => .cells (Lib.firstTab.map fun z => Value.int .u8 z).toArray t frozen
      | o => o }
theorem tabs_of {l : List (String × DataW Unit)} {W : World} (h : laidMet Tryz.prog l W) (h1 : ("unicode/utf8.first", Rows.laid_unicode_utf8_first) ∈ l) (h2 : ("unicode/utf8.acceptRanges", Rows.laid_unicode_utf8_acceptRanges) ∈ l) : Tabs W := by
  have e1 : (Rows.laid_unicode_utf8_first : DataW Unit) = Lib.firstData := Go.Pinned.utf8First_eq
  have e2 : (Rows.laid_unicode_utf8_acceptRanges : DataW Unit) = Lib.acceptData := by kernel_rfl
  have r1 := Lib.laidMet.reads h h1
  have r2 := Lib.laidMet.reads h h2
  rw [e1] at r1
  rw [e2] at r2
  exact utf8Tabs_of_readsT (U8Types.of196 Tryz.layValid) ⟨by kernel_rfl, by kernel_rfl, by kernel_rfl, by kernel_rfl, by kernel_rfl, by kernel_rfl, by kernel_rfl⟩ r1 r2
theorem rdU_of {W : World} {a : Addr} {len cap : Nat} {zs : List Int} (hl : len ≤ cap) (hm : cap ≤ maxLen) (hz : zs.length = cap) (hcell : ∀ i, i < zs.length → W.cell? (a.add i) = some (.int .u8 (zs.getD i 0))) (hw : ∀ n ∈ zs, (Lit.int .u8 n).wf = true) :
    RdU W W.heap.size (some a) len cap := by
  refine ⟨hl, hm, fun hp => ?_⟩
  obtain ⟨b, o, spot⟩ := a
  have hspot : spot = none := by simpa [Addr.add] using World.cell?_spot (hcell 0 (by omega))
  subst hspot
  have hlt : b < W.heap.size := by
    have h := hcell 0 (by omega)
    exact World.block_lt_of_cell? W (Addr.add ⟨b, o, none⟩ 0) h
  refine ⟨b, o, rfl, hlt, fun i hi => ?_⟩
  have hi' : i < zs.length := by omega
  have hb := bounds_u8 (hw (zs.getD i 0) (by simp [List.getD, hi']))
  refine ⟨(zs.getD i 0).toNat, by omega, ?_⟩
  rw [show (((zs.getD i 0).toNat : Nat) : Int) = zs.getD i 0 from by omega, ← Addr.add_lit]
  exact hcell i hi'
end Go.Proofs.YtikiimlmoalbcaaGreatDoor

namespace Go.Proofs.YtikiimlmoalbcaaGreatDoor
open Go.ChangeShapes Go.RowKit Go.Lib
theorem one_named : Tryz.prog.globalNamed "tablefinder/fraction.one" = some 0 := by kernel_rfl
theorem one_type : (Tryz.prog.globals[(0 : Nat)]?).map (·.type) = some 163 := by kernel_rfl
theorem kCells32 : Tryz.prog.cellsOf 132 = 1 := by kernel_rfl
theorem one_var {W : World} {cs : Array Value} {v : Value} (h : W.var? Tryz.prog "tablefinder/fraction.one" = some cs) (hc : cs.toList = [v]) : W.cell? ⟨0, 0, none⟩ = some v := by
  unfold World.var? at h
  rw [one_named] at h
  simp only [Option.bind_some] at h
  split at h
  · rename_i c t fr hb
    obtain rfl := Option.some.inj h
    have e : c = #[v] := by cases c; simp_all
    subst e
    simp [World.cell?, hb]
  · cases h
theorem one_of {l : List (String × DataW Unit)} {W : World} (h : laidMet Tryz.prog l W) (h1 : ("tablefinder/fraction.one", Rows.laid_tablefinder_fraction_one) ∈ l) : Fr.OneAt W := by
  obtain ⟨g', t', cs, fuel, p, hg', ht', hvar, hd⟩ := laidMet.reads h h1
  obtain rfl := Option.some.inj (one_named.symm.trans hg')
  obtain rfl := Option.some.inj (one_type.symm.trans ht')
  rcases open_ints Tryz.underlying163 Tryz.underlying132 kCells32 hd with ⟨hcs, hx⟩ | ⟨a, len, cap, zs, hcs, -, hl, hm, hz, hx, hcell, -⟩
  · have := congrArg Prod.fst hx
    cases this
  · have hx1 := congrArg Prod.fst hx
    simp only [Rows.laid_tablefinder_fraction_one, DataW.slice.injEq] at hx1
    obtain ⟨e1, e2⟩ := hx1
    have hz' : zs.length = cap := by simpa using hz
    have l1 := congrArg List.length e1
    have l2 := congrArg List.length e2
    simp [lits] at l1 l2
    have hlen : len = 1 := by omega
    have hcap : cap = 1 := by omega
    subst hlen hcap
    obtain ⟨z, rfl⟩ : ∃ z, zs = [z] := List.length_eq_one_iff.1 hz'
    simp [lits] at e1
    subst e1
    have hc := hcell 0 (by simp)
    have hsp := World.cell?_spot hc
    obtain ⟨b, o, spot⟩ := a
    have hspot : spot = none := by simpa [Addr.add] using hsp
    subst hspot
    have hlt : b < W.heap.size := World.block_lt_of_cell? W (Addr.add ⟨b, o, none⟩ 0) hc
    have hv := one_var hvar hcs
    have hgl : (0 : Nat) < W.heap.size := World.block_lt_of_cell? W ⟨0, 0, none⟩ hv
    have hd1 : Fr.dig 1 = [1] := Fr.dig_one_digit (by omega) (by omega)
    refine ⟨_, _, hv, ?_, hgl⟩
    rw [hd1]
    refine ⟨some ⟨b, o, none⟩, 1, rfl, by decide, hm, ?_, fun _ => ⟨b, o, rfl, hlt, fun i hi => ?_⟩⟩
    · rw [← hd1]; exact Fr.digs_dig 1
    have hi0 : i = 0 := by simpa using hi
    subst hi0
    rw [← Addr.add_lit]
    exact hc
end Go.Proofs.YtikiimlmoalbcaaGreatDoor

namespace Go.Proofs.YtikiimlmoalbcaaGreatDoor
open Go.ChangeShapes Go.WideShapes Go.ChangeAt Go.RowKit Go.Lib
set_option linter.unusedVariables false
theorem door_met (os : Os) (args : Array Value) : laidMetH Tryz.prog Rows.overlapOthersRow.laid ((laidWorld os).forCall (fun _ _ => 0) ⟨#[], args, []⟩).memory :=
  laidMetH_of_parts3 (fuel := 8) (laidMet_of_run' 8 (by kernel_rfl) (by kernel_rfl)) (by kernel_rfl) (by kernel_rfl)
set_option maxRecDepth 100000 in
theorem lifted (os : Os) (started : os.Started) (H : Type) (enc : TypeId × Value → H) :
  ReturnsInHanded {} Tryz.checked os 5 .any (fun w args => (Rows.overlapOthersSpec.pre enc Tryz.prog Tryz.f5 [] false w args ∧ laidMetH Tryz.prog Rows.overlapOthersRow.laid w) ∧ sizedMet enc Tryz.prog Tryz.f5 (OpenSpec.ofChange Rows.overlapOthersSpec) false w args)
   (Rows.overlapOthersSpec.post enc Tryz.prog Tryz.f5 false true false false) := by
 refine returnsInHanded_of_change_and (C := Tryz.checked) (X := fun w _ => laidMetH Tryz.prog Rows.overlapOthersRow.laid w) (fun _ _ _ hh h => h.of_heap hh) kOwn started (by kernel_rfl) Tryz.func5
  (ChangeSpec.witness_shaped (enc := enc) (C := Tryz.checked) (os := os) (X := fun w _ => laidMetH Tryz.prog Rows.overlapOthersRow.laid w) false (laidWorld os) #[.slice none 0 0, .int .u8 0] 8 rfl (World.shaped_of_RefB (by kernel_rfl) (by kernel_rfl)) (by kernel_rfl) (by kernel_rfl) (by kernel_rfl) (door_met os _)) ?_
 intro W base args ds gs before hval0 hW _ _ hL _
 have hval : ∀ (j : Nat) t v, Tryz.f5.params[j]? = some t → args[j]? = some v → Value.okWide Tryz.prog W .any base t v := hval0
 have hW' := hW
 obtain ⟨p, q, hA0, hV, rfl, _, _⟩ := hW
 have hA : DataW.TrodAll enc Tryz.prog W 0 (fun _ => true) true Tryz.f5.params.toList args.toList ds p := hA0
 rw [Tryz.params5] at hA hval
 obtain ⟨v0, vs0, d0, ds0, p0, q0, hargs, rfl, rfl, h0, r0⟩ := trodAll_cons hA
 obtain ⟨v1, vs1, d1, ds1, p1, q1, rfl, rfl, rfl, h1, r1⟩ := trodAll_cons r0
 obtain ⟨rfl, rfl, rfl⟩ := trodAll_nil r1
 obtain rfl : args = #[v0, v1] := by cases args; simp_all
 obtain ⟨rfl, rfl⟩ := trodVars_none hV
 have h0k := h0
 obtain ⟨fuel0, hf0⟩ := h0
 obtain ⟨z1, rfl, rfl, rfl, w1⟩ := open_int Tryz.underlying5 (hval 1 5 v1 rfl rfl) h1
 have bd1 := bounds_u8 w1
 obtain ⟨N1, rfl⟩ : ∃ m : Nat, z1 = (m : Int) := ⟨z1.toNat, by omega⟩
 have N1b : N1 < 256 := by omega
 clear hA0 hval0
 simp only [List.append_nil] at hW'
 have hlt0 : ∀ x ∈ p0, x.block < W.heap.size := fun x hx => by
  have := hW'.lt x (by first | exact hx | simpa using hx | simp [hx])
  simpa using this
 have TABS : Tabs W := by
  have hm : laidMetH Tryz.prog Rows.overlapOthersRow.laid W := hL
  rw [MakeChecks.laidMetH_plain _ _ _ (by kernel_rfl)] at hm
  exact tabs_of hm (by simp [Rows.overlapOthersRow]) (by simp [Rows.overlapOthersRow])
 have ONE : Fr.OneAt W := by
  have hm : laidMetH Tryz.prog Rows.overlapOthersRow.laid W := hL
  rw [MakeChecks.laidMetH_plain _ _ _ (by kernel_rfl)] at hm
  exact one_of hm (by simp [Rows.overlapOthersRow])
 obtain ⟨A0, L0, C0, rfl⟩ := okWide_slice Tryz.underlying22 (hval 0 22 v0 rfl rfl)
 have R0 : RdU W W.heap.size A0 L0 C0 := by
  rcases open_ints Tryz.underlying22 Tryz.underlying5 kCells hf0 with ⟨hcs, hx⟩ | ⟨a, len', cap', zs, hcs, _, hl, hm, hz, hx, hcell, hwz⟩
  ·simp [Value.cells] at hcs
   obtain ⟨rfl, rfl, rfl⟩ := hcs
   exact ⟨Nat.le_refl _, by simp [maxLen], fun h => absurd h (by omega)⟩
  ·simp [Value.cells] at hcs
   obtain ⟨rfl, rfl, rfl⟩ := hcs
   exact rdU_of hl hm (by simpa using hz) hcell hwz
 refine (law19_othersS A0 L0 C0 N1 N1b W R0 TABS ONE).mono fun e W' ⟨he, hg⟩ => ?_
 subst he
 have hback0 : DataW.Trod enc Tryz.prog W' 0 (fun b => decide (b < W.heap.size)) true 22 (.slice A0 L0 C0) d0 p0 :=
  Below.trod kLaid (by kernel_rfl) (of_decide_eq_true (by kernel_rfl)) h0k hg hlt0
 exact ⟨_, rfl, _, _, _, [], _, [], hW', (trodAll_cons_mk (shut_bool Tryz.underlying4 _) trodAll_mk0), (trodAll_cons_mk hback0 (trodAll_cons_mk (shut_int Tryz.underlying5 w1) trodAll_mk0)), rfl, hg.frame _, fun h => by cases h⟩
theorem jf1 : (Rows.overlapOthersRow.inPlace == Tryz.pinned.checked.prog.inPlace 5) = true := by kernel_rfl
theorem jf2 : (Rows.overlapOthersRow.unfollowed == Tryz.pinned.checked.prog.unfollowed 5) = true := by kernel_rfl
theorem jf3 : (Rows.overlapOthersRow.recurses == Tryz.pinned.checked.prog.recurses 5) = true := by kernel_rfl
theorem jf4 : (Rows.overlapOthersRow.named == Tryz.pinned.checked.prog.varsNamed 5) = true := by kernel_rfl
theorem jfc : joinedFacts Tryz.pinned.checked.prog 5 Tryz.f5 Rows.overlapOthersSpec Rows.overlapOthersRow = true := by
  unfold joinedFacts
  rw [jf1, jf2, jf3, jf4]
  kernel_rfl
theorem jfw : Tryz.f5.isWrapper Tryz.pinned.checked.prog Rows.overlapOthersRow.wrapper Rows.overlapOthersRow.mainSum := by unfold Func.isWrapper; first | (rw [if_pos (by decide +kernel)]; kernel_rfl) | (rw [if_neg (by decide +kernel)]; exact ⟨rfl, rfl⟩)
theorem said : Rows.OverlapOthersSaid :=
  OpenClaim.holds_of_wide 5 Tryz.f5 rfl rfl rfl rfl rfl rfl rfl ⟨rfl, rfl, rfl, rfl, rfl⟩ rfl rfl rfl rfl rfl (by kernel_rfl) Tryz.func5 jfc
    (of_decide_eq_true (by kernel_rfl)) jfw
    (fun os started H enc _ => lifted os started H enc)
theorem proved : Rows.OverlapOthersCardSaid :=
  Claim7.holds_tied_plain_at .later [] Rows.overlapOthersCard.laidKinds true (true, Rows.overlapOthersCard.stood.harness.2) false
    said (fun _ h => by cases h) (by kernel_rfl) (fun _ h => by cases h) overlapOthers_row_tie rfl ⟨rfl, rfl⟩ (by kernel_rfl) rfl
    (fun f fn hf hfn => by
      obtain rfl : f = 5 := Option.some.inj ((show Tryz.prog.funcNamed "tablefinder/tablefinderlaw19.OverlapOthers" = some 5 by kernel_rfl).symm.trans hf) |>.symm
      obtain rfl : fn = Tryz.f5 := (Option.some.inj (Tryz.func5.symm.trans hfn)).symm
      exact ⟨by kernel_rfl, fun j t ht => by
        rw [Tryz.params5] at ht
        have h3 : t = 22 ∨ t = 5 := by
          rcases j with _ | _ | j
          · left; simpa using ht.symm
          · right; simpa using ht.symm
          · simp at ht
        rcases h3 with rfl | rfl
        · exact (show Tryz.prog.wantsStandIn 22 = false by kernel_rfl)
        · exact (show Tryz.prog.wantsStandIn 5 = false by kernel_rfl)⟩)
    (by kernel_rfl)
#print axioms proved
end Go.Proofs.YtikiimlmoalbcaaGreatDoor
