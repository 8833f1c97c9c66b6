/- Plain: what the kit's family of tables is, and the ways up in it. Contract of the reference Find at a list of tables (from Nf). -/
import Derived.Test.YtfmlpaplnkohpaaGreatDoorLnBbq
import Derived.Test.YtfmlpaplnkohpaaGreatDoorLnBbg
import Derived.Test.YtfmlpaplnkohpaaGreatDoorLnBab
set_option linter.unusedVariables false
set_option linter.unusedSimpArgs false
namespace Go.Proofs.YtfmlpaplnkohpaaGreatDoor
open Go.RowKit
theorem fam_few {k t : Ta} (hk : KTabOk k) (h : FamQ k t) : Few t.cols := by
  obtain ⟨n, hn, hc⟩ := ren_cols hk
  exact h.2 Few ⟨n, by omega, hc⟩ fun ys o hy hcan _ => few_do hy hcan
theorem fam_ids {ts : List Ta} (h : ∀ i, i < ts.length → (ts.getD i Ta.z).id = (i : Int) + 1) : ts.Pairwise fun a b => a.id < b.id := by
  rw [List.pairwise_iff_getElem]
  intro i j hi hj hij
  have h1 := h i hi
  have h2 := h j hj
  simp [List.getD, hi, hj] at h1 h2
  omega
theorem fam_list {k : Ta} {ts : List Ta} (h4 : ts.length ≤ 4) (hi : ∀ i, i < ts.length → (ts.getD i Ta.z).id = (i : Int) + 1) (hq : ∀ t ∈ ts, FamQ k t) : ListV ts := by
  refine ⟨by omega, fun t ht => ?_, fam_ids hi⟩
  obtain ⟨i, hil, rfl⟩ := List.getElem_of_mem ht
  have h1 := hi i hil
  simp [List.getD, hil] at h1
  exact (hq _ ht).1.tab (id := ts[i].id) (by omega) (by omega)
theorem up_at {l : List Ta} : ∀ {way : List Ta} {s : Ta}, upL l s way → ∀ p, p < way.length → grT (way.getD p Ta.z) ((s :: way).getD p Ta.z) = true ∧ grT (way.getD p Ta.z) s = true
  | [], _, _, p, hp => by simp at hp
  | a :: way, s, h, 0, _ => ⟨h.2.1, h.2.1⟩
  | a :: way, s, h, p + 1, hp => by
    obtain ⟨h1, h2⟩ := up_at h.2.2.2 p (by simpa using hp)
    exact ⟨h1, grT_trans h2 h.2.1⟩
theorem root_ids {ts : List Ta} (h : ts.Pairwise fun a b => a.id < b.id) : rootIds ts (linksL ts) = (rootsT ts).map Ta.id := by
  unfold rootIds rootsT
  have hgen : ∀ m : List Ta, (∀ b ∈ m, b ∈ ts) → m.filterMap (rootI (linksL ts)) = (m.filter fun b => (linkO ts b).isNone).map Ta.id := by
    intro m
    induction m with
    | nil => intro _; rfl
    | cons b m ih =>
      intro hm
      have h1 := toL_links h (hm b List.mem_cons_self)
      have h2 := ih fun c hc => hm c (List.mem_cons_of_mem _ hc)
      rw [List.filterMap_cons, List.filter_cons]
      unfold rootI at h2 ⊢
      rw [h1]
      by_cases h3 : (linkO ts b).isNone = true
      · rw [if_pos h3, if_pos h3, List.map_cons]
        simp only
        rw [h2]
      · rw [if_neg h3, if_neg h3]
        exact h2
  exact hgen ts fun b hb => hb
theorem last_at (s : Ta) (way : List Ta) : (s :: way).getLastD s = (s :: way).getD way.length Ta.z := by
  rw [List.getLastD_eq_getLast?, List.getLast?_eq_getElem?]
  simp [List.getD]
end Go.Proofs.YtfmlpaplnkohpaaGreatDoor

namespace Go.Proofs.YtfmlpaplnkohpaaGreatDoor
open Go.RowKit
def FindP (w : World) (B : Nat) (t : Ta) (e : Ending) (w' : World) : Prop :=
  ∃ u, e = .returned (.tuple #[.agg #[.int .i64 t.id, .string t.name, u], .bool true]) ∧ RdCo w (· < B) u t.cols ∧ Below w.heap.size w w'
set_option maxRecDepth 100000 in
set_option maxHeartbeats 1000000 in
theorem ref_Find (v : Value) (ts : List Ta) (B i : Nat) (w : World) (hi : i < ts.length) (hu : ∀ j, j < i → (ts.getD j Ta.z).id ≠ (ts.getD i Ta.z).id) (hl : ts.length ≤ 1048576) (hv : RdTa w (· < B) v ts) (hB : B ≤ w.heap.size) :
    Calls Tryz.prog 32 #[v, .int .i64 (ts.getD i Ta.z).id] w (FindP w B (ts.getD i Ta.z)) := by
  obtain ⟨tv, htv, hco⟩ := hv
  obtain ⟨a, k, rfl, hk, hm, hrd⟩ := htv
  obtain ⟨b, o, rfl, hb, hcell⟩ := hrd (by omega)
  have hbw : b < w.heap.size := by omega
  have HRD := hid hcell
  have HCO := hid (hco i hi)
  have HSL : Hid (∀ q, q < ts.length → ∃ ca m ck, tv q = .slice ca m ck) := hid (fun q hq => by
    obtain ⟨cv, ⟨ca, ck, e, -⟩, -⟩ := hco q hq
    exact ⟨ca, _, ck, e⟩)
  have HU := hid hu
  clear hcell hco hu hrd
  generalize htt : ts.getD i Ta.z = t at *
  have HTT := hid htt
  clear htt
  generalize hxl : ts.length = L at *
  clear hxl
  unfold maxLen at hm
  obtain ⟨ca, ck, hcq⟩ : ∃ ca ck, tv i = .slice ca t.cols.length ck := by
    obtain ⟨cv, ⟨ca, ck, e, -⟩, -⟩ := HCO.out
    exact ⟨ca, ck, e⟩
  have HCQ := hid hcq
  clear hcq
  go_enter Tryz.func32, Tryz.ntmps32
  generalize hLA : Code.loop _ = LA
  go_wp2_with fail
  have HX0 := hid (BoxN.new w #[.int .i64 0, .string ⟨#[]⟩, .slice none 0 0] 29)
  have HB0 := hid ((Below.refl w.heap.size w).alloc (Nat.le_refl _) (.cells #[.int .i64 0, .string ⟨#[]⟩, .slice none 0 0] 29))
  have hz0 : (w.alloc (.cells #[.int .i64 0, .string ⟨#[]⟩, .slice none 0 0] 29)).heap.size = w.heap.size + 1 := by simp
  generalize w.alloc (.cells #[.int .i64 0, .string ⟨#[]⟩, .slice none 0 0] 29) = W0 at *
  subst hLA
  go_loopg [10] (i + 1) (fun N c wr => ∃ q : Nat, q + N = i + 1 ∧ q ≤ i ∧ c = .int .i64 (q : Int) ∧ Hid (Below W0.heap.size W0 wr))
  case atStart => exact ⟨0, by omega, by omega, rfl, hid (Below.refl _ _)⟩
  case round =>
    obtain ⟨q, hq, hqi, rfl, HB⟩ := hrel
    have hwz := HB.out.size
    have HBW := hid (HB0.out.trans (HB.out.mono (by omega)))
    have k0 : wr.cell? ⟨b, o + q * 3, none⟩ = some (.int .i64 (ts.getD q Ta.z).id) := (HBW.out.cell (p := ⟨b, o + q * 3, none⟩) hbw).trans (HRD.out q (by omega) 0 (by omega))
    have k1 : wr.cell? ⟨b, o + q * 3 + 1, none⟩ = some (.string (ts.getD q Ta.z).name) := (HBW.out.cell (p := ⟨b, o + q * 3 + 1, none⟩) hbw).trans (HRD.out q (by omega) 1 (by omega))
    have k2 : wr.cell? ⟨b, o + q * 3 + 2, none⟩ = some (tv q) := (HBW.out.cell (p := ⟨b, o + q * 3 + 2, none⟩) hbw).trans (HRD.out q (by omega) 2 (by omega))
    by_cases hqe : q = i
    · subst hqe
      rw [HTT.out] at k0 k1
      rw [HCQ.out] at k2
      have hcr := HCO.out
      rw [HCQ.out] at hcr
      have HCR := hid hcr
      have hb0 := HX0.out.below HB.out (by omega)
      have c0 := hb0.cell 0 rfl
      have c1 := hb0.cell 1 rfl
      have c2 := hb0.cell 2 rfl
      have f0 := hb0.frozen 0
      have f1 := hb0.frozen 1
      have f2 := hb0.frozen 2
      have hxz := hb0.lt
      clear hcr
      obtain ⟨id, nm, xs⟩ := t
      simp only at k0 k1 k2
      generalize xs.length = m at *
      have hbF := (((hb0.set 0 (.int .i64 id)).set 1 (.string nm)).set 2 (.slice ca m ck)).alloc (.cells #[.int .i64 id, .string nm, .slice ca m ck] 29)
      have d0 := hbF.cell 0 rfl
      have d1 := hbF.cell 1 rfl
      have d2 := hbF.cell 2 rfl
      have D0 := hid d0
      have D1 := hid d1
      have D2 := hid d2
      clear hb0 hbF d0 d1 d2
      go_wp2
      have d0 := D0.out
      have d1 := D1.out
      have d2 := D2.out
      refine bodyPost_ret (v := .tuple #[.agg #[.int .i64 id, .string nm, .slice ca m ck], .bool true]) (by simp [results, Tryz.results32, go_sem, d0, d1, d2]) rfl ⟨_, rfl, HCR.out, ?_⟩
      have := HBW.out
      repeat' (first | (with_reducible exact Below.refl _ _) | (with_reducible assumption) | (with_reducible refine below_drewN ?_) | (with_reducible refine Below.alloc ?_ ?_ _) | (with_reducible refine Below.drew ?_) | (with_reducible refine Below.setCell ?_ ?_ _) | (with_reducible refine Below.trans ?_ (Below.mono (by with_reducible assumption) ?_)) | go_size)
    · have hne := HU.out q (by omega)
      obtain ⟨ca', m', ck', hcq'⟩ := HSL.out q (by omega)
      rw [hcq'] at k2
      have hne2 : ((ts.getD q Ta.z).id == t.id) = false := by simpa using hne
      generalize ts.getD q Ta.z = t' at *
      obtain ⟨id', nm', xs'⟩ := t'
      simp only at k0 k1 hne2
      clear hne
      go_wp2
      go_roundg (gk - 1)
      case rel => exact ⟨q + 1, by omega, by omega, by go_num, hid (by have := HB.out; repeat' (first | (with_reducible exact Below.refl _ _) | (with_reducible assumption) | (with_reducible refine below_drewN ?_) | (with_reducible refine Below.alloc ?_ ?_ _) | (with_reducible refine Below.drew ?_) | (with_reducible refine Below.setCell ?_ ?_ _) | (with_reducible refine Below.trans ?_ (Below.mono (by with_reducible assumption) ?_)) | go_size))⟩
      case measure => omega
end Go.Proofs.YtfmlpaplnkohpaaGreatDoor
