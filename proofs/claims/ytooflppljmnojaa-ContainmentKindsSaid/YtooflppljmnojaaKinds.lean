/- Proved: called with any three numbers of type uint8, ContainmentKinds returns true, and its arguments read as before. No conditions. -/
import Derived.Test.YtooflppljmnojaaSd
import Derived.Test.YtooflppljmnojaaSe
import Derived.Test.YtooflppljmnojaaSf
import Derived.Test.YtooflppljmnojaaSg
import Derived.Test.YtooflppljmnojaaSh
import Derived.WalkKit
import Derived.ProofKit
import Derived.OpenShut
namespace Go.Proofs.Ytooflppljmnojaa
open Go.ChangeShapes Go.WideShapes Go.ChangeAt Go.RowKit
set_option linter.unusedVariables false      -- a walk need not use every 'w<i>' (that an integer argument fits its kind)

theorem kOwn : ownKnob Try.prog.godebug = none := by kernel_rfl

theorem nat_walk (x y z : Nat) (w : World) (hx : x < 256) (hy : y < 256) (hz : z < 256) :
    Calls Try.prog 3 #[.int .u8 (x : Int), .int .u8 (y : Int), .int .u8 (z : Int)] w (Ret w (.bool true)) := by
  obtain ⟨q, hqe⟩ : ∃ q : Nat, q = 1 + y % 40 := ⟨_, rfl⟩
  obtain ⟨n, hne⟩ : ∃ n : Nat, n = 1 + z % 40 := ⟨_, rfl⟩
  have hq : 1 + (y : Int) % 40 = (q : Int) := by omega
  have hn : 1 + (z : Int) % 40 = (n : Int) := by omega
  have key : ∀ m c : Nat, c = x % (m + 1) → (x : Int) % ((m : Int) + 1) = (c : Int) ∧ c ≤ m := fun m c hc => by
    subst hc
    refine ⟨by simp, ?_⟩
    have := Nat.mod_lt x (show 0 < m + 1 by omega)
    omega
  by_cases hnq : n < q
  · obtain ⟨c, hc⟩ : ∃ c : Nat, c = x % (n + 1) := ⟨_, rfl⟩
    obtain ⟨hc1, hc2⟩ := key n c hc
    by_cases h0 : c = 0
    · subst h0
      exact kinds_zero_lt x y z q n w hx hy hz hq hn (by omega) (by omega) (by omega) (by omega) hnq hc1 (by omega) (by omega)
    · exact kinds_pos_lt x y z q n c w hx hy hz hq hn (by omega) (by omega) (by omega) (by omega) hnq hc1 (by omega) (by omega) (by omega) (by omega)
  · obtain ⟨c, hc⟩ : ∃ c : Nat, c = x % (q + 1) := ⟨_, rfl⟩
    obtain ⟨hc1, hc2⟩ := key q c hc
    by_cases h0 : c = 0
    · subst h0
      exact kinds_zero_ge x y z q n w hx hy hz hq hn (by omega) (by omega) (by omega) (by omega) hnq hc1 (by omega) (by omega)
    · by_cases h1 : c = q
      · exact kinds_eq x y z q n c w hx hy hz hq hn (by omega) (by omega) (by omega) (by omega) hnq hc1 (by omega) (by omega) h1
      · exact kinds_pos_ge x y z q n c w hx hy hz hq hn (by omega) (by omega) (by omega) (by omega) hnq hc1 (by omega) (by omega) h1 (by omega)

theorem walk (a0 : Int) (a1 : Int) (a2 : Int) (w0 : (Lit.int .u8 a0).wf = true) (w1 : (Lit.int .u8 a1).wf = true) (w2 : (Lit.int .u8 a2).wf = true) (w : World) :
    Calls Try.prog 3 #[.int .u8 a0, .int .u8 a1, .int .u8 a2] w fun e w' => e = .returned (.bool true) ∧ Below w.heap.size w w' := by
  have b0 := bounds_u8 w0
  have b1 := bounds_u8 w1
  have b2 := bounds_u8 w2
  obtain ⟨x, rfl⟩ : ∃ x : Nat, a0 = (x : Int) := ⟨a0.toNat, by omega⟩
  obtain ⟨y, rfl⟩ : ∃ x : Nat, a1 = (x : Int) := ⟨a1.toNat, by omega⟩
  obtain ⟨z, rfl⟩ : ∃ x : Nat, a2 = (x : Int) := ⟨a2.toNat, by omega⟩
  exact nat_walk x y z w (by omega) (by omega) (by omega)

/-! ### THE ROW's STEP: WRITTEN OUT: LEAVE IT -/
set_option maxRecDepth 100000 in
theorem lifted (os : Os) (started : os.Started) (H : Type) (enc : TypeId × Value → H) :
    ReturnsInHanded {} Try.checked os 3 .any (Rows.containmentKindsSpec.pre6 enc Try.prog Try.f3 Rows.containmentKindsRow.domain false) (Rows.containmentKindsSpec.post enc Try.prog Try.f3 false true false false) := by
  refine returnsInHanded_of_change (C := Try.checked) kOwn started (by kernel_rfl) Try.func3
    (ChangeSpec.witness6 (enc := enc) (C := Try.checked) false ⟨#[], #[.int .u8 0, .int .u8 0, .int .u8 0], []⟩ 8 (by kernel_rfl) (by kernel_rfl) (by kernel_rfl) (by kernel_rfl)) ?_
  intro W base args ds gs before hval0 hW hcnd _
  have hval : ∀ (j : Nat) t v, Try.f3.params[j]? = some t → args[j]? = some v → Value.okWide Try.prog W .any base t v := hval0
  have hW' := hW
  obtain ⟨p, q, hA0, hV, rfl, hfz, hnd⟩ := hW
  have hA : DataW.TrodAll enc Try.prog W 0 (fun _ => true) true Try.f3.params.toList args.toList ds p := hA0
  rw [Try.params3] at hA hval
  obtain ⟨v0, vs0, d0, ds0, p0, q0, hargs, rfl, rfl, h0, r0⟩ := trodAll_cons hA
  obtain ⟨v1, vs1, d1, ds1, p1, q1, rfl, rfl, rfl, h1, r1⟩ := trodAll_cons r0
  obtain ⟨v2, vs2, d2, ds2, p2, q2, rfl, rfl, rfl, h2, r2⟩ := trodAll_cons r1
  obtain ⟨rfl, rfl, rfl⟩ := trodAll_nil r2
  obtain rfl : args = #[v0, v1, v2] := by cases args; simp_all
  obtain ⟨rfl, rfl⟩ := trodVars_none hV
  obtain ⟨a0, rfl, rfl, rfl, w0⟩ := open_int Try.underlying5 (hval 0 5 v0 rfl rfl) h0
  obtain ⟨a1, rfl, rfl, rfl, w1⟩ := open_int Try.underlying5 (hval 1 5 v1 rfl rfl) h1
  obtain ⟨a2, rfl, rfl, rfl, w2⟩ := open_int Try.underlying5 (hval 2 5 v2 rfl rfl) h2
  clear hA0 hval0
  simp only [List.append_nil] at hW'
  refine (walk a0 a1 a2 w0 w1 w2 W).mono fun e W' ⟨he, hg⟩ => ?_
  subst he
  exact ⟨_, rfl, _, _, _, [], [], [], hW', (trodAll_cons_mk (shut_bool Try.underlying4 _) trodAll_mk0), (trodAll_cons_mk (shut_int Try.underlying5 w0) (trodAll_cons_mk (shut_int Try.underlying5 w1) (trodAll_cons_mk (shut_int Try.underlying5 w2) trodAll_mk0))), rfl, hg.frame _, fun h => by cases h⟩

theorem over : Rows.containmentKindsRow.holds Try.pinned (OpenSpec.ofChange Rows.containmentKindsSpec) :=
  OpenClaim.holds_of_wide 3 Try.f3 rfl rfl rfl rfl rfl rfl rfl ⟨rfl, rfl, rfl, rfl, rfl⟩ rfl rfl rfl rfl rfl (by kernel_rfl) Try.func3 (by kernel_rfl)
    (of_decide_eq_true (by kernel_rfl)) (by unfold Func.isWrapper; first | (rw [if_pos (by decide +kernel)]; kernel_rfl) | (rw [if_neg (by decide +kernel)]; exact ⟨rfl, rfl⟩))
    (fun os started H enc _ => lifted os started H enc)

/-- ████ THE STATEMENT ████ -/
theorem proved : Rows.ContainmentKindsSaid :=
  over
#print axioms proved
end Go.Proofs.Ytooflppljmnojaa
