/- Contract of slices.SortFunc at columns of an index. -/
import Derived.Test.YtabemneoobbnaaaDoorNx
namespace Go.Proofs.YtabemneoobbnaaaDoor
open Go.RowKit Go.Shelf

theorem byRef_lays (blk off size : Nat) (w : World) : Go.Proofs.CmpLays Tryd.prog 33 #[] encS 3 cfS blk off size w :=
  fun _ _ _ _ x y => posting_byRef x.1.1.1 (x.1.1.2 : Int) y.1.1.1 (y.1.1.2 : Int) x.2.1 y.2.1 x.2.2.1 x.2.2.2 y.2.2.1 y.2.2.2 _

/-- columns of the call's own, below a bound -/
def CvB (w : World) (base B : Nat) (e : TypeId) (blk n cap : Nat) (cs : List Cv) : Prop :=
  ∃ vv : Nat → Value, Nest 3 w base e (.slice (some ⟨blk, 0, none⟩) n cap) cs.length (cvF cs vv) (fun i w S => InS w S (vv i) (cs.getD i Cv.z).2) ∧ (∀ i, i < cs.length → InS w (fun b => b < B ∧ b < w.heap.size ∧ b ≠ blk) (vv i) (cs.getD i Cv.z).2) ∧ blk < B
theorem CvB.of {w : World} {base : Nat} {e : TypeId} {blk n cap : Nat} {cs : List Cv} (h : CvSt w base e (.slice (some ⟨blk, 0, none⟩) n cap) cs) : CvB w base w.heap.size e blk n cap cs := by
  obtain ⟨vv, h⟩ := h
  exact ⟨vv, h, fun i hi => InK.more (h.kids i hi) fun b hb => ⟨hb.2.1, hb.2.1, fun e => hb.2.2 (by rw [e]; rfl)⟩, (h.row.lt blk rfl).2⟩
theorem CvB.alloc {w : World} {base B : Nat} {e : TypeId} {blk n cap : Nat} {cs : List Cv} (h : CvB w base B e blk n cap cs) (O : Obj) : CvB (w.alloc O) base B e blk n cap cs := by
  obtain ⟨vv, h1, h2, h3⟩ := h
  exact ⟨vv, h1.alloc (fun i _ => keeps_s _ _) O, fun i hi => (InK.keep (h2 i hi) fun p hp => World.cell?_alloc_lt _ _ _ hp.2.1).more fun b hb => ⟨hb.1, by rw [World.size_alloc]; omega, hb.2.2⟩, h3⟩

theorem posting_sort (cs : List Cv) (base B blk n cap : Nat) (w : World) (hn : cs.length = n) (hm : n ≤ 1048576) (h : CvB w base B 58 blk n cap cs) :
    Calls Tryd.prog 32 #[.slice (some ⟨blk, 0, none⟩) n cap, .func (.func 33) #[] #[]] w fun e w' =>
      e = .returned (.tuple #[]) ∧ ∃ cs', cs'.Perm cs ∧ cs'.Pairwise (fun a b => rlt (refZ b) (refZ a) = false) ∧ RdCv w' (· < B) (.slice (some ⟨blk, 0, none⟩) n cap) cs' ∧ w.grownBy w' (some blk) := by
  obtain ⟨vv, h, hk, hbB⟩ := h
  have eg : ∀ args w, (callFunc 33 args).run Tryd.prog w = .ok (.enter 33 args) w := enters_of Tryd.func33 (by kernel_rfl) rfl
  have hlt : blk < w.heap.size := (h.row.lt blk rfl).2
  have hcon := AnyQ.slices_SortFunc Tryd.sortSets 3 Tryd.isAgg58 Tryd.sizeOf58 encS (fun _ => rfl) (fun x v hv => by simp [encS] at hv; rcases hv with rfl | rfl | rfl <;> rfl) cfS swoS 33 #[] blk 0 cap (svsOf cs vv) w eg (byRef_lays _ _ _ _) (cv_holds hn h) hlt (by rw [svs_size]; omega)
  rw [svs_size, hn] at hcon
  refine hcon.mono ?_
  rintro e w' ⟨he, d', m, os, hp, hs, rfl⟩
  obtain ⟨h1, -⟩ := cv_sorted (m := m) hn h hp os
  have h2 := cv_sorted_read (m := m) hn hbB h hk hp os
  exact ⟨he, colsOf d', h1, sorted_pair (hp.1.trans ((svs_size _ _).trans hn)) hs, h2, sorted_grown d' os⟩

end Go.Proofs.YtabemneoobbnaaaDoor
