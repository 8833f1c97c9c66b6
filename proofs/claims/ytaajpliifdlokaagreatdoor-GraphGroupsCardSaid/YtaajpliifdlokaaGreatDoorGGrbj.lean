/- Contract of the sanity check of chapter 30: three tables, two of which have a value in common. Contract of the sanity check of chapter 30. Plain: the relations at a greater bound are those of the lesser one that are enough for it. Words: a map of numbers to yes and no, in which only yes is stored; the length of a map of numbers. Plain: what GraphGroups asks of the groups. No program in sight. -/
import Derived.Test.YtaajpliifdlokaaGreatDoorGGrbi
import Derived.Test.YtaajpliifdlokaaGreatDoorGGrbb
import Derived.Test.YtaajpliifdlokaaGreatDoorGGrbg
import Derived.Test.YtaajpliifdlokaaGreatDoorGGrbf
import Derived.Test.YtaajpliifdlokaaGreatDoorGGrbh
set_option linter.unusedVariables false
set_option linter.unusedSimpArgs false
namespace Go.Proofs.YtaajpliifdlokaaGreatDoor
open Go.RowKit
def oneT (id : Int) (s : ByteArray) : Ta := ⟨id, ⟨#[]⟩, [⟨⟨#[]⟩, [⟨false, s⟩]⟩]⟩
theorem one_read {W : World} {n : Nat} {S : Nat → Prop} {s : ByteArray} (h0 : BoxN W n 84 #[.bool false, .string s]) (h1 : BoxN W (n + 1) 55 #[.string ⟨#[]⟩, .slice (some ⟨n, 0, none⟩) 1 1]) (hS : S n) (hS1 : S (n + 1)) :
    RdCo W S (.slice (some ⟨n + 1, 0, none⟩) 1 1) [⟨⟨#[]⟩, [⟨false, s⟩]⟩] := by
  refine ⟨fun _ => .slice (some ⟨n, 0, none⟩) 1 1, ⟨some ⟨n + 1, 0, none⟩, 1, rfl, Nat.le_refl _, by unfold maxLen; omega, fun _ => ⟨n + 1, 0, rfl, hS1, fun i hi j hj => ?_⟩⟩, fun i hi => ⟨some ⟨n, 0, none⟩, 1, ?_, ?_, by unfold maxLen; omega, fun _ => ⟨n, 0, rfl, hS, fun i' hi' j hj => ?_⟩⟩⟩
  · have hi0 : i = 0 := Nat.lt_one_iff.1 hi
    subst hi0
    rcases (show j = 0 ∨ j = 1 by omega) with rfl | rfl
    · exact h1.cell 0 rfl
    · exact h1.cell 1 rfl
  · have hi0 : i = 0 := Nat.lt_one_iff.1 hi
    subst hi0
    rfl
  · have hi0 : i = 0 := Nat.lt_one_iff.1 hi
    subst hi0
    exact Nat.le_refl _
  · have hi0 : i = 0 := Nat.lt_one_iff.1 hi
    subst hi0
    have hi1 : i' = 0 := Nat.lt_one_iff.1 hi'
    subst hi1
    rcases (show j = 0 ∨ j = 1 by omega) with rfl | rfl
    · exact h0.cell 0 rfl
    · exact h0.cell 1 rfl
def OneTP (w : World) (id : Int) (s : ByteArray) (e : Ending) (w' : World) : Prop :=
  ∃ a, e = .returned (.agg #[.int .i64 id, .string ⟨#[]⟩, .slice (some a) 1 1]) ∧ RdCo w' (News w w') (.slice (some a) 1 1) (oneT id s).cols ∧ Below w.heap.size w w'
set_option maxRecDepth 100000 in
set_option maxHeartbeats 2000000 in
theorem law30_one (id : Int) (s : ByteArray) (w : World) : Calls Tryz.prog 34 #[.int .i64 id, .string s] w (OneTP w id s) := by
  have hF := ((BoxN.new w #[.int .i64 id, .string ⟨#[]⟩, .slice (some ⟨w.heap.size + 1 + 1, 0, none⟩) 1 1] 51).alloc (.cells #[.bool false, .string s] 84)).alloc (.cells #[.string ⟨#[]⟩, .slice (some ⟨w.heap.size + 1, 0, none⟩) 1 1] 55)
  have h1 := (BoxN.new (w.alloc (.cells #[.int .i64 id, .string ⟨#[]⟩, .slice (some ⟨w.heap.size + 1 + 1, 0, none⟩) 1 1] 51)) #[.bool false, .string s] 84).alloc (.cells #[.string ⟨#[]⟩, .slice (some ⟨w.heap.size + 1, 0, none⟩) 1 1] 55)
  have h2 := BoxN.new ((w.alloc (.cells #[.int .i64 id, .string ⟨#[]⟩, .slice (some ⟨w.heap.size + 1 + 1, 0, none⟩) 1 1] 51)).alloc (.cells #[.bool false, .string s] 84)) #[.string ⟨#[]⟩, .slice (some ⟨w.heap.size + 1, 0, none⟩) 1 1] 55
  simp only [World.size_alloc] at h1 h2
  have HRD := hid (one_read h1 h2 (S := News w (((w.alloc (.cells #[.int .i64 id, .string ⟨#[]⟩, .slice (some ⟨w.heap.size + 1 + 1, 0, none⟩) 1 1] 51)).alloc (.cells #[.bool false, .string s] 84)).alloc (.cells #[.string ⟨#[]⟩, .slice (some ⟨w.heap.size + 1, 0, none⟩) 1 1] 55))) ⟨by omega, by simp only [World.size_alloc]; omega⟩ ⟨by omega, by simp only [World.size_alloc]; omega⟩)
  clear h1 h2
  have d0 := hF.cell 0 rfl
  have d1 := hF.cell 1 rfl
  have d2 := hF.cell 2 rfl
  have D0 := hid d0
  have D1 := hid d1
  have D2 := hid d2
  clear hF d0 d1 d2
  go_enter Tryz.func34, Tryz.ntmps34
  go_wp2
  have d0 := D0.out
  have d1 := D1.out
  have d2 := D2.out
  refine bodyPost_ret (v := .agg #[.int .i64 id, .string ⟨#[]⟩, .slice (some ⟨w.heap.size + 1 + 1, 0, none⟩) 1 1]) (by simp [results, Tryz.results34, go_sem, d0, d1, d2]) rfl ⟨_, rfl, HRD.out, ?_⟩
  repeat' (first | (with_reducible exact Below.refl _ _) | (with_reducible assumption) | (with_reducible refine below_drewN ?_) | (with_reducible refine Below.alloc ?_ ?_ _) | (with_reducible refine Below.drew ?_) | (with_reducible refine Below.setCell ?_ ?_ _) | (with_reducible refine Below.trans ?_ (Below.mono (by with_reducible assumption) ?_)) | go_size)
def Rl.ns (r : Rl) : List Int := [r.ta, r.ca, r.tb, r.cb, r.co, r.oa, r.ob, r.ma, r.mb, r.la, r.lb]
instance : DecidableEq Rl := fun a b => decidable_of_iff (a.ns = b.ns) (by
  obtain ⟨a1, a2, a3, a4, a5, a6, a7, a8, a9, a10, a11⟩ := a
  obtain ⟨b1, b2, b3, b4, b5, b6, b7, b8, b9, b10, b11⟩ := b
  simp [Rl.ns])
def ts30 : List Ta := [oneT 1 ⟨#[120]⟩, oneT 2 ⟨#[121]⟩, oneT 3 ⟨#[120]⟩]
def r30 : Rl := ⟨1, 0, 3, 0, 1, 0, 0, 1, 1, 0, 0⟩
theorem good30 : goodL ts30 1 2 = [r30] := by decide +kernel
end Go.Proofs.YtaajpliifdlokaaGreatDoor

namespace Go.Proofs.YtaajpliifdlokaaGreatDoor
open Go.RowKit
theorem one_tab {id : Int} {s : ByteArray} (h0 : 0 ≤ id) (h1 : id ≤ 1073741824) (hs : TextOk 8 s) : TabV (oneT id s) := by
  have he : TextOk 1024 (⟨#[]⟩ : ByteArray) := by unfold TextOk; decide +kernel
  refine ⟨h0, h1, he, by simp [oneT], 1, by omega, fun x hx => ?_⟩
  have e : x = ⟨⟨#[]⟩, [⟨false, s⟩]⟩ := by simpa [oneT] using hx
  subst e
  refine ⟨he, rfl, fun c hc => ?_⟩
  have e2 : c = ⟨false, s⟩ := by simpa using hc
  subst e2
  exact cellOk_text hs
theorem list30 : ListV ts30 := by
  have hx : TextOk 8 (⟨#[120]⟩ : ByteArray) := by unfold TextOk; decide +kernel
  have hy : TextOk 8 (⟨#[121]⟩ : ByteArray) := by unfold TextOk; decide +kernel
  refine ⟨by simp [ts30], fun t ht => ?_, by simp [ts30, oneT]⟩
  simp [ts30] at ht
  rcases ht with rfl | rfl | rfl
  · exact one_tab (by omega) (by omega) hx
  · exact one_tab (by omega) (by omega) hy
  · exact one_tab (by omega) (by omega) hx
theorem few30 : FewT ts30 := ⟨by simp [ts30], fun t ht => by
  simp [ts30] at ht
  rcases ht with rfl | rfl | rfl <;> simp [oneT]⟩
theorem ids30 : idsT ts30 = [1, 2, 3] := rfl
theorem groups30 {g : Int → Int} (h : GroupsOk (idsT ts30) [r30] g) : groupsL g (idsT ts30) = [[1, 3], [2]] := by
  rw [ids30] at h ⊢
  obtain ⟨h1, h2⟩ := h
  have a1 := h1.low 1 (by simp)
  have a2 := h1.low 2 (by simp)
  have m1 := h1.mem 1 (by simp)
  have m2 := h1.mem 2 (by simp)
  simp at m1 m2
  have e1 : g 1 = 1 := by omega
  have e3 : g 3 = 1 := by
    have h3 := h2 r30 (by simp)
    simp only [r30] at h3
    rw [← h3, e1]
  have e2 : g 2 = 2 := by
    have h3 := h1.conn 2 (by simp) (fun a b => (a = 2 ↔ b = 2)) (fun a => Iff.rfl) (fun a b h => h.symm) (fun a b c h h' => h.trans h') (fun r hr => by
      rw [List.mem_singleton.1 hr]
      simp [r30])
    simp only at h3
    first | exact h3.1 rfl | exact h3.1 trivial | simpa using h3
  simp [groupsL, headsL, withV, e1, e2, e3]
theorem ta3_read {W : World} {n : Nat} {S : Nat → Prop} {a b c : Ta} {u v x : Value} (h : BoxN W n 51 #[.int .i64 a.id, .string a.name, u, .int .i64 b.id, .string b.name, v, .int .i64 c.id, .string c.name, x]) (hS : S n)
    (hu : RdCo W S u a.cols) (hv : RdCo W S v b.cols) (hx : RdCo W S x c.cols) : RdTa W S (.slice (some ⟨n, 0, none⟩) 3 3) [a, b, c] := by
  refine ⟨three u v x, ⟨some ⟨n, 0, none⟩, 3, rfl, Nat.le_refl _, by unfold maxLen; omega, fun _ => ⟨n, 0, rfl, hS, fun i hi j hj => ?_⟩⟩, fun i hi => ?_⟩
  · have hi' : i < 3 := hi
    rcases (show i = 0 ∨ i = 1 ∨ i = 2 by omega) with rfl | rfl | rfl <;> rcases (show j = 0 ∨ j = 1 ∨ j = 2 by omega) with rfl | rfl | rfl
    · exact h.cell 0 rfl
    · exact h.cell 1 rfl
    · exact h.cell 2 rfl
    · exact h.cell 3 rfl
    · exact h.cell 4 rfl
    · exact h.cell 5 rfl
    · exact h.cell 6 rfl
    · exact h.cell 7 rfl
    · exact h.cell 8 rfl
  · have hi' : i < 3 := hi
    rcases (show i = 0 ∨ i = 1 ∨ i = 2 by omega) with rfl | rfl | rfl
    · exact hu
    · exact hv
    · exact hx
theorem rdCo_up {w w' : World} {S : Nat → Prop} {v : Value} {xs : List Co} (h : RdCo w S v xs) (hS : ∀ b, S b → b < w.heap.size) (hb : Below w.heap.size w w') : RdCo w' (· < w'.heap.size) v xs :=
  (h.keep fun p hp => hb.cell (p := p) (hS _ hp)).more fun b hb' => Nat.lt_of_lt_of_le (hS b hb') hb.size
set_option maxRecDepth 100000 in
set_option maxHeartbeats 8000000 in
theorem law30_awake (w : World) (hT : Tabs w) (h1 : Fr.OneAt w) : Calls Tryz.prog 9 #[] w (Ret w (.bool true)) := by
 have HT := hid hT
 have H1 := hid h1
 clear hT h1
 go_enter Tryz.func9, Tryz.ntmps9
 go_wp2_with fail
 with_reducible refine (law30_one 1 ⟨#[120]⟩ w).mono ?_
 rintro e w1 ⟨a1, rfl, hr1, hb1⟩
 have HR1 := hid hr1
 have HB1 := hid hb1
 clear hr1 hb1
 go_wp2_with fail
 with_reducible refine (law30_one 2 ⟨#[121]⟩ w1).mono ?_
 rintro e w2 ⟨a2, rfl, hr2, hb2⟩
 have HR2 := hid hr2
 have HB12 := hid hb2
 have HB2 := hid (HB1.out.trans (hb2.mono HB1.out.size))
 clear hr2 hb2
 go_wp2_with fail
 with_reducible refine (law30_one 3 ⟨#[120]⟩ w2).mono ?_
 rintro e w3 ⟨a3, rfl, hr3, hb3⟩
 have HB23 := hid hb3
 have HB3 := hid (HB2.out.trans (hb3.mono HB2.out.size))
 have HRA := hid (rdCo_up HR1.out (fun b h => h.2) (HB12.out.trans (hb3.mono HB12.out.size)))
 have HRB := hid (rdCo_up HR2.out (fun b h => h.2) hb3)
 have HRC := hid (hr3.more (S' := (· < w3.heap.size)) fun b h => h.2)
 have h3s := HB3.out.size
 clear hr3 hb3 HR1 HR2
 have hbx := BoxN.new w3 #[.int .i64 1, .string ⟨#[]⟩, .slice (some a1) 1 1, .int .i64 2, .string ⟨#[]⟩, .slice (some a2) 1 1, .int .i64 3, .string ⟨#[]⟩, .slice (some a3) 1 1] 51
 have hsx := (Below.refl w3.heap.size w3).alloc (Nat.le_refl _) (.cells #[.int .i64 1, .string ⟨#[]⟩, .slice (some a1) 1 1, .int .i64 2, .string ⟨#[]⟩, .slice (some a2) 1 1, .int .i64 3, .string ⟨#[]⟩, .slice (some a3) 1 1] 51)
 obtain ⟨X, hX⟩ : ∃ W, W = w3.alloc (.cells #[.int .i64 1, .string ⟨#[]⟩, .slice (some a1) 1 1, .int .i64 2, .string ⟨#[]⟩, .slice (some a2) 1 1, .int .i64 3, .string ⟨#[]⟩, .slice (some a3) 1 1] 51) := ⟨_, rfl⟩
 rw [← hX] at hbx hsx
 have HRD : Hid (RdTa X (· < X.heap.size) (.slice (some ⟨w3.heap.size, 0, none⟩) 3 3) ts30) := hid (ta3_read (a := oneT 1 ⟨#[120]⟩) (b := oneT 2 ⟨#[121]⟩) (c := oneT 3 ⟨#[120]⟩) hbx hbx.lt (rdCo_up HRA.out (fun b h => h) hsx) (rdCo_up HRB.out (fun b h => h) hsx) (rdCo_up HRC.out (fun b h => h) hsx))
 have HBX := hid (HB3.out.trans (hsx.mono h3s))
 clear hbx hsx HRA HRB HRC
 have HPA : Hid (∀ W, Calls Tryz.prog 12 #[.int .i64 1, .int .i64 2] W (Fr.GivesF W false 1 2)) := hid (fun W => Fr.ref_Part 1 2 W (by omega) (by omega) (by omega))
 go_wp2_with fail
 rw [← hX]
 clear hX
 with_reducible refine (HPA.out X).mono ?_
 rintro e w4 ⟨a4, c4, b4, d4, rfl, hN4, hb4⟩
 have HB4 := hid (HBX.out.trans (hb4.mono HBX.out.size))
 have HRD4 := hid (rdTa_next HRD.out hb4)
 have HBU := hid (graph_Build (.slice (some ⟨w3.heap.size, 0, none⟩) 3 3) (.agg #[.bool false, .slice a4 (Fr.dig 1).length c4, .bool false, .slice b4 (Fr.dig 2).length d4]) ts30 1 2 w4.heap.size w4 list30 few30 HRD4.out (Nat.le_refl _) (hN4.rd false) ⟨by omega, by omega, by omega, by decide⟩ (by omega) (HT.out.below HB4.out) (H1.out.below HB4.out))
 clear hN4 hb4
 go_wp2_with fail
 with_reducible refine HBU.out.mono ?_
 rintro e w5 ⟨x5, rs, rfl, hp, -, hown, hb5⟩
 rw [good30] at hp
 have hrs : rs = [r30] := List.perm_singleton.1 hp
 subst hrs
 have HOW := hid hown
 obtain ⟨xa, xc, rfl⟩ := hown.len
 have HB5 := hid (HB4.out.trans (hb5.mono HB4.out.size))
 have HRD5 := hid (rdTa_next HRD4.out hb5)
 have hrl := hown.read.more (S' := (· < w5.heap.size)) fun b hb => hb.2
 have HRL := hid (fun W (hW : Below w5.heap.size w5 W) => (hrl.keep (w' := W) fun p (hp : p.block < w5.heap.size) => hW.cell (p := p) hp : RdRl W (· < w5.heap.size) (.slice xa 1 xc) [r30]))
 have HGR := hid (graph_Groups (.slice (some ⟨w3.heap.size, 0, none⟩) 3 3) (.slice xa 1 xc) ts30 [r30] w5.heap.size w5 list30 HRD5.out (HRL.out w5 (Below.refl _ _)) (Nat.le_refl _) (fun r hr => by rw [List.mem_singleton.1 hr, ids30]; simp [r30]) (by simp))
 clear hp hown hb5 hrl HBU
 go_wp2_with fail
 with_reducible refine HGR.out.mono ?_
 rintro e w6 ⟨g, x6, vs, rfl, hgo, hgr, hb6⟩
 have hg30 := groups30 hgo
 rw [hg30] at hgr
 have HB6 := hid (HB5.out.trans (hb6.mono HB5.out.size))
 have HB56 := hid hb6
 obtain ⟨ga, gc, rfl⟩ := own_slice hgr.row
 obtain ⟨gb, hgb⟩ := slice_block hgr.row (by simp)
 subst hgb
 have hvl := hgr.len
 have c0 : w6.cell? ⟨gb, 0, none⟩ = some (vs.getD 0 nilS) := by
  rw [hgr.row.cellAt 0 (by simp)]
  have h1 : 0 < vs.length := by rw [hvl]; simp
  simp [List.getD, h1]
 obtain ⟨ia, ic, hiv⟩ := own_slice (hgr.kids 0 (by simp))
 rw [hiv] at c0
 have HFR := hid (fun W (hW : Below w5.heap.size w5 W) => graph_From (.slice xa 1 xc) [r30] 3 w5.heap.size W (HRL.out W hW) hW.size (by simp))
 clear hgo hgr hb6 hiv HGR
 have HF1 : Hid (fromR [r30] 3 = [r30.turn]) := hid (by decide +kernel)
 have HF2 : Hid (r30.turn.ta = 3) := hid (by decide +kernel)
 go_wp2_with fail
 with_reducible refine (HFR.out w6 HB56.out).mono ?_
 rintro e w7 ⟨x7, rfl, ho7, hb7⟩
 rw [HF1.out] at ho7
 obtain ⟨ya, yc, rfl⟩ := ho7.len
 have HB57 := hid (HB56.out.trans (hb7.mono HB56.out.size))
 have HB7 := hid (HB6.out.trans (hb7.mono HB6.out.size))
 clear ho7 hb7
 go_wp2_with fail
 with_reducible refine (HFR.out w7 HB57.out).mono ?_
 rintro e w8 ⟨x8, rfl, ho8, hb8⟩
 rw [HF1.out] at ho8
 obtain ⟨b, o, c', e8, hb, k0, -⟩ := rl_at ho8.read (q := 0) (by simp)
 subst e8
 have k0' : w8.cell? ⟨b, o, none⟩ = some (.int .i64 3) := by
  have := k0
  simp only [Nat.zero_mul, Nat.add_zero] at this
  rw [this]
  simp [HF2.out]
 have HB8 := hid (HB7.out.trans (hb8.mono HB7.out.size))
 clear ho8 hb8 k0
 go_wp2_with fail
 go_ret
 exact ⟨rfl, HB8.out⟩
end Go.Proofs.YtaajpliifdlokaaGreatDoor

namespace Go.Proofs.YtaajpliifdlokaaGreatDoor
open Go.RowKit
theorem mem_relB {a b : Ta} {r : Rl} (h : r ∈ relB a b) : a.id < b.id ∧ ∃ i j, i < a.cols.length ∧ j < b.cols.length ∧ r = relL a b i j := by
  unfold relB at h
  split at h
  · rename_i hlt
    unfold relI relJ at h
    rw [List.mem_flatMap] at h
    obtain ⟨i, hi, h⟩ := h
    rw [List.mem_map] at h
    obtain ⟨j, hj, rfl⟩ := h
    exact ⟨hlt, i, j, List.mem_range.1 hi, List.mem_range.1 hj, rfl⟩
  · simp at h
theorem mem_rels {ts : List Ta} {r : Rl} (h : r ∈ relsL ts) : ∃ a ∈ ts, ∃ b ∈ ts, a.id < b.id ∧ ∃ i j, i < a.cols.length ∧ j < b.cols.length ∧ r = relL a b i j := by
  unfold relsL relA at h
  rw [List.mem_flatMap] at h
  obtain ⟨a, ha, h⟩ := h
  rw [List.mem_flatMap] at h
  obtain ⟨b, hb, h⟩ := h
  exact ⟨a, ha, b, hb, mem_relB h⟩
end Go.Proofs.YtaajpliifdlokaaGreatDoor

namespace Go.Proofs.YtaajpliifdlokaaGreatDoor
open Go.RowKit
theorem MapZ.len {w : World} {b K : Nat} {G : Int → Option Int} (h : MapZ w b K G) (ty : TypeId) : (Builtin.len_ #[65] ty #[.map (some b)]).run Tryz.prog w = .ok (.int .i64 (K : Int)) w := by
  obtain ⟨D, hown, -, hs⟩ := h
  rw [← hs]
  exact hown.len Tryz.underlying65 ty
structure BOk (D : DataW Unit) (G : Int → Bool) : Prop where
  map : Go.Maps.IsMap D
  has : ∀ z, Go.Maps.has D (.int .i64 z) = G z
  look : ∀ z, D.atKey (.int .i64 z) (.lit (.bool false)) = .lit (.bool (G z))
theorem BOk.start : BOk (.map []) (fun _ => false) := ⟨Go.Maps.isMap_empty, fun s => by simp [Go.Maps.has], fun s => rfl⟩
def setB (G : Int → Bool) (k : Int) : Int → Bool := fun z => if z = k then true else G z
theorem setB_same (G : Int → Bool) (k : Int) : setB G k k = true := if_pos rfl
theorem setB_old {G : Int → Bool} {k z : Int} (h : G z = true) : setB G k z = true := by
  unfold setB
  split
  · rfl
  · exact h
theorem setB_other {G : Int → Bool} {k z : Int} (h : z ≠ k) : setB G k z = G z := if_neg h
theorem BOk.put {D : DataW Unit} {G : Int → Bool} (h : BOk D G) (k : Int) : BOk (D.put (.int .i64 k) (.lit (.bool true))) (setB G k) := by
  refine ⟨h.map.put _ _, fun t => ?_, fun t => ?_⟩
  · unfold setB
    by_cases e : t = k
    · subst e
      rw [if_pos rfl, Go.Maps.has_put_same h.map (keyLit_z _)]
    · rw [if_neg e, Go.Maps.has_put_other (fun e2 => e (by injection e2))]
      exact h.has t
  · unfold setB
    by_cases e : t = k
    · subst e
      rw [if_pos rfl, Go.Maps.atKey_put_same h.map (keyLit_z _)]
    · rw [if_neg e, Go.Maps.atKey_put_other (fun e2 => e (by injection e2))]
      exact h.look t
def MapB (w : World) (b K : Nat) (G : Int → Bool) : Prop :=
  ∃ D : DataW Unit, w.ownsMap Tryz.prog 3 (plainElem (H := Unit) Tryz.prog 4) b K D ∧ BOk D G ∧ Go.Maps.size D = K
section
variable {w w' : World} {b K : Nat} {G : Int → Bool}
theorem MapB.lt (h : MapB w b K G) : b < w.heap.size := by
  obtain ⟨D, hown, -, -⟩ := h
  exact hown.lt
theorem MapB.later (h : MapB w b K G) (hk : w'.heap[b]? = w.heap[b]?) : MapB w' b K G := by
  obtain ⟨D, ⟨es, clock, hb, Ft, hs, hD⟩, ho, hz⟩ := h
  exact ⟨D, ⟨es, clock, hk.trans hb, Ft, hs, hD⟩, ho, hz⟩
theorem MapB.below {B : Nat} (h : MapB w b K G) (hb : Below B w w') (hl : b < B) : MapB w' b K G := h.later (hb.block b hl)
theorem MapB.grown {row : Option Nat} (h : MapB w b K G) (hg : w.grownBy w' row) (hne : some b ≠ row) : MapB w' b K G := h.later (hg.block b h.lt hne)
theorem MapB.alloc (h : MapB w b K G) (O : Obj) : MapB (w.alloc O) b K G := h.later (Below.heap_alloc _ _ _ h.lt)
theorem MapB.congr {G' : Int → Bool} (h : MapB w b K G) (e : ∀ z, G z = G' z) : MapB w b K G' := by
  have : G = G' := funext e
  subst this
  exact h
theorem MapB.made (w : World) : MapB (w.alloc (.map #[] 0)) w.heap.size 0 (fun _ => false) := ⟨_, World.ownsMap_made w Tryz.prog 3 _, BOk.start, rfl⟩
theorem plain_bool_inv {P : Program} {e : TypeId} (he : P.underlying e = some .bool) {v : Value} {z : DataW Unit × List MemPlace} (h : plainElem P e v = some z) : ∃ a, v = .bool a ∧ z = (.lit (.bool a), []) := by
  unfold plainElem at h
  rw [he] at h
  cases v <;> simp at h
  exact ⟨_, rfl, h.symm⟩
set_option maxRecDepth 100000 in
theorem MapB.look (h : MapB w b K G) {z : Int} (hz : W64 z) : (Instr.lookup 68 (.map (some b)) (.int .i64 z) false).run Tryz.prog w = .ok (.bool (G z)) w := by
  obtain ⟨D, hown, ho, -⟩ := h
  obtain ⟨v, ps, hrun, hv⟩ := hown.lookup law_intZ Tryz.underlying68 (Tryz.zeroValue4 _) (plainElem_bool Tryz.underlying4 false) (key_z hz)
  rw [ho.look z] at hv
  obtain ⟨c, rfl, hc⟩ := plain_bool_inv Tryz.underlying4 hv
  have h1 := (Prod.mk.inj hc).1
  injection h1 with h1
  injection h1 with h1
  rw [hrun, h1]
theorem own_exactB {H : Type} {P : Program} {k : TypeId} {R : Value → Option (DataW H × List MemPlace)} {w : World} {b n m : Nat} {D : DataW H} (h : w.ownsMap P k R b n D) (e : Go.Maps.size D = m) : w.ownsMap P k R b m D := by
  obtain ⟨es, clock, hb, Ft, hs, hD⟩ := h
  refine ⟨es, clock, hb, Ft, ?_, hD⟩
  rw [hD, Go.Maps.size_eq, length_sorted, List.length_map, Array.length_toList] at e
  omega
set_option maxRecDepth 100000 in
theorem MapB.update (h : MapB w b K G) {z : Int} (hz : W64 z) (hK : K < maxLen) :
    ∃ w', (Instr.mapUpdate 68 (.map (some b)) (.int .i64 z) (.bool true)).run Tryz.prog w = .ok () w' ∧ MapB w' b (if G z then K else K + 1) (setB G z) ∧ w.grownBy w' (some b) := by
  obtain ⟨D, hown, ho, hs⟩ := h
  obtain ⟨w', h1, h2, h3⟩ := hown.update law_intZ Tryz.underlying68 hK (key_z hz) (plainElem_bool (H := Unit) Tryz.underlying4 true)
  have h4 : Go.Maps.size (D.put (.int .i64 z) (.lit (.bool true))) = if G z then K else K + 1 := by
    rw [Go.Maps.size_put (hown.tidy law_intZ), ho.has, hs]
  exact ⟨w', h1, ⟨_, own_exactB h2 h4, ho.put z, h4⟩, h3⟩
end
theorem nodup_leZ : ∀ {l m : List Int}, l.Nodup → (∀ x ∈ l, x ∈ m) → l.length ≤ m.length
  | [], _, _, _ => Nat.zero_le _
  | x :: l, m, h, hs => by
    obtain ⟨h1, h2⟩ := List.nodup_cons.1 h
    have hx : x ∈ m := hs x (by simp)
    have h3 := nodup_leZ (m := m.erase x) h2 fun y hy => (List.mem_erase_of_ne (fun e => h1 (by rw [← e]; exact hy))).2 (hs y (by simp [hy]))
    rw [List.length_erase_of_mem hx] at h3
    have := List.length_pos_of_mem hx
    rw [List.length_cons]
    omega
theorem gr_at {W : World} {base : Nat} {v : Value} {out : List (List Int)} {vs : List Value} (h : GrSt W base v out vs) {i : Nat} (hi : i < out.length) : ∃ G c, v = .slice (some ⟨G, 0, none⟩) out.length c ∧ W.cell? ⟨G, i, none⟩ = some (vs.getD i nilS) := by
  obtain ⟨G, cap, e, -, -⟩ := h.row.form (by omega)
  refine ⟨G, cap, e, ?_⟩
  subst e
  rw [h.row.cellAt i (by omega)]
  have h1 : i < vs.length := by rw [h.len]; exact hi
  simp [List.getD, h1]
theorem gr_row {W : World} {base : Nat} {v : Value} {out : List (List Int)} {vs : List Value} (h : GrSt W base v out vs) {i : Nat} (hi : i < out.length) (hp : 0 < (out.getD i []).length) :
    ∃ b c, vs.getD i nilS = .slice (some ⟨b, 0, none⟩) (out.getD i []).length c ∧ ∀ k, k < (out.getD i []).length → W.cell? ⟨b, k, none⟩ = some (.int .i64 ((out.getD i []).getD k 0)) := by
  have hk := h.kids i hi
  obtain ⟨b, cap, e, -, -⟩ := hk.form (by omega)
  refine ⟨b, cap, e, fun k hkk => ?_⟩
  rw [e] at hk
  rw [hk.cellAt k (by omega)]
  generalize out.getD i [] = row at *
  simp [ints, List.getD, hkk]
def cntB (ids : List Int) (G : Int → Bool) : Nat := (ids.filter G).length
theorem cntB_le (ids : List Int) (G : Int → Bool) : cntB ids G ≤ ids.length := List.length_filter_le _ _
theorem cntB_set {G : Int → Bool} {z : Int} : ∀ {ids : List Int}, ids.Nodup → cntB ids (setB G z) = if z ∈ ids then (if G z then cntB ids G else cntB ids G + 1) else cntB ids G
  | [], _ => by simp [cntB]
  | x :: l, h => by
    obtain ⟨h1, h2⟩ := List.nodup_cons.1 h
    have ih := cntB_set (G := G) (z := z) h2
    unfold cntB at ih ⊢
    rw [List.filter_cons, List.filter_cons]
    by_cases e : x = z
    · subst e
      rw [if_neg h1] at ih
      rw [setB_same, if_pos rfl, List.length_cons, ih, if_pos (by simp)]
      cases G x <;> simp
    · rw [setB_other e]
      have hm : (z ∈ x :: l) ↔ z ∈ l := by
        constructor
        · intro hz
          rcases List.mem_cons.1 hz with rfl | hz
          · exact absurd rfl e
          · exact hz
        · exact fun hz => by simp [hz]
      by_cases hz : z ∈ l
      · rw [if_pos (hm.2 hz)]
        rw [if_pos hz] at ih
        cases G x <;> cases hg : G z <;> simp [hg] at ih ⊢ <;> omega
      · rw [if_neg (fun e2 => hz (hm.1 e2))]
        rw [if_neg hz] at ih
        cases G x <;> simp at ih ⊢ <;> omega
theorem cntB_in {ids : List Int} {G : Int → Bool} {z : Int} (hn : ids.Nodup) (hz : z ∈ ids) : cntB ids (setB G z) = if G z then cntB ids G else cntB ids G + 1 := by
  rw [cntB_set hn, if_pos hz]
theorem cntB_none (ids : List Int) : cntB ids (fun _ => false) = 0 := by simp [cntB]
theorem cntB_join {ids : List Int} {G : Int → Bool} {a b : Int} (hn : ids.Nodup) (ha : a ∈ ids) (hb : b ∈ ids) (h : G a ≠ G b) : cntB ids G < cntB ids (setB (setB G a) b) := by
  rw [cntB_in hn hb, cntB_in hn ha]
  cases h1 : G a
  · simp only [Bool.false_eq_true, if_false]
    split <;> omega
  · have h2 : G b = false := by
      cases h3 : G b
      · rfl
      · exact absurd (h1.trans h3.symm) h
    have h3 : setB G a b = false := by
      rw [setB_other (fun e => by rw [e, h1] at h2; cases h2)]
      exact h2
    rw [h3]
    simp
end Go.Proofs.YtaajpliifdlokaaGreatDoor

namespace Go.Proofs.YtaajpliifdlokaaGreatDoor
open Go.RowKit
def hOf (g : Int → Int) (ids : List Int) (z : Int) : Int := ((headsL g ids).idxOf (g z) : Int)
def placedL (out : List (List Int)) (i k : Nat) : List Int := (out.take i).flatten ++ (out.getD i []).take k
theorem gmZ_snoc2 {l : List Int} {h : Int → Int} {x : Int} (z : Int) : setZ (gmZ l h) x (h x) z = gmZ (l ++ [x]) h z := by
  unfold setZ gmZ
  by_cases e : z = x
  · subst e
    rw [if_pos rfl, if_pos (by simp)]
  · rw [if_neg e]
    by_cases h2 : z ∈ l
    · rw [if_pos h2, if_pos (List.mem_append.2 (.inl h2))]
    · rw [if_neg h2, if_neg (fun e2 => by rcases List.mem_append.1 e2 with e2 | e2; exact h2 e2; exact e (List.mem_singleton.1 e2))]
section
variable {g : Int → Int} {ids : List Int}
theorem grp_getD {i : Nat} (hi : i < (groupsL g ids).length) : ∃ v, v ∈ headsL g ids ∧ (headsL g ids).idxOf v = i ∧ (groupsL g ids).getD i [] = withV g ids v := by
  have h1 : i < (headsL g ids).length := by rw [groups_len] at hi; exact hi
  refine ⟨(headsL g ids)[i], List.getElem_mem h1, (heads_nodup g ids).idxOf_getElem i h1, ?_⟩
  simp [groupsL, List.getD, h1]
theorem withV_mem {v x : Int} : x ∈ withV g ids v ↔ x ∈ ids ∧ g x = v := by simp [withV]
theorem grp_mem {i : Nat} (hi : i < (groupsL g ids).length) {x : Int} (hx : x ∈ (groupsL g ids).getD i []) : x ∈ ids ∧ hOf g ids x = (i : Int) := by
  obtain ⟨v, hv, he, e⟩ := grp_getD hi
  rw [e, withV_mem] at hx
  refine ⟨hx.1, ?_⟩
  unfold hOf
  rw [hx.2, he]
theorem grp_same {i : Nat} (hi : i < (groupsL g ids).length) {x y : Int} (hx : x ∈ (groupsL g ids).getD i []) (hy : y ∈ (groupsL g ids).getD i []) : g x = g y := by
  obtain ⟨v, hv, he, e⟩ := grp_getD hi
  rw [e, withV_mem] at hx hy
  rw [hx.2, hy.2]
theorem grp_pos {i : Nat} (hi : i < (groupsL g ids).length) : 0 < ((groupsL g ids).getD i []).length := by
  obtain ⟨v, hv, he, e⟩ := grp_getD hi
  obtain ⟨x, hx, hg⟩ := (heads_mem g ids v).1 hv
  exact List.length_pos_of_mem (a := x) (by rw [e, withV_mem]; exact ⟨hx, hg⟩)
theorem grp_asc (ha : ids.Pairwise fun a b => a < b) {i : Nat} (hi : i < (groupsL g ids).length) : ((groupsL g ids).getD i []).Pairwise fun a b => a < b := by
  obtain ⟨v, hv, he, e⟩ := grp_getD hi
  rw [e]
  exact ha.sublist List.filter_sublist
theorem asc_nodup {l : List Int} (h : l.Pairwise fun a b => a < b) : l.Nodup := h.imp fun h1 e => by omega
theorem placed_new (ha : ids.Pairwise fun a b => a < b) {i k : Nat} (hi : i < (groupsL g ids).length) (hk : k < ((groupsL g ids).getD i []).length) : ((groupsL g ids).getD i []).getD k 0 ∉ placedL (groupsL g ids) i k := by
  intro hm
  unfold placedL at hm
  have hx := getD_mem hk 0
  rcases List.mem_append.1 hm with h1 | h1
  · obtain ⟨m, hm1, hm2⟩ := List.mem_flatten.1 h1
    obtain ⟨j, hj, e⟩ := List.getElem_of_mem hm1
    rw [List.length_take] at hj
    rw [List.getElem_take] at e
    have hj2 : j < (groupsL g ids).length := by omega
    have e2 : (groupsL g ids).getD j [] = m := by simp [List.getD, hj2, e]
    rw [← e2] at hm2
    have h3 := (grp_mem hj2 hm2).2
    have h4 := (grp_mem hi hx).2
    omega
  · have hn := asc_nodup (grp_asc ha hi)
    generalize (groupsL g ids).getD i [] = m at *
    have e1 : m.getD k 0 = m[k] := by simp [List.getD, hk]
    rw [e1] at h1
    obtain ⟨j, hj, e⟩ := List.getElem_of_mem h1
    rw [List.length_take] at hj
    rw [List.getElem_take] at e
    have := (List.getElem_inj hn).1 e
    omega
theorem placed_next {out : List (List Int)} {i k : Nat} (hk : k < (out.getD i []).length) : placedL out i (k + 1) = placedL out i k ++ [(out.getD i []).getD k 0] := by
  unfold placedL
  rw [List.append_assoc]
  congr 1
  generalize out.getD i [] = row at *
  rw [List.take_succ_eq_append_getElem hk]
  simp [List.getD, hk]
theorem placed_row {out : List (List Int)} {i : Nat} (hi : i < out.length) : placedL out (i + 1) 0 = placedL out i (out.getD i []).length := by
  unfold placedL
  have e : out.getD i [] = out[i] := by simp [List.getD, hi]
  rw [List.take_succ_eq_append_getElem hi, List.take_length, List.take_zero, List.append_nil, List.flatten_append, e]
  simp
theorem placed_all (g : Int → Int) (ids : List Int) {z : Int} (hz : z ∈ ids) : z ∈ placedL (groupsL g ids) (groupsL g ids).length 0 := by
  unfold placedL
  rw [List.take_length, List.take_zero, List.append_nil, List.mem_flatten]
  refine ⟨withV g ids (g z), List.mem_map.2 ⟨g z, (heads_mem g ids _).2 ⟨z, hz, rfl⟩, rfl⟩, withV_mem.2 ⟨hz, rfl⟩⟩
theorem placed_sub {z : Int} {i k : Nat} (hi : i ≤ (groupsL g ids).length) (hz : z ∈ placedL (groupsL g ids) i k) : z ∈ ids := by
  unfold placedL at hz
  have h1 : ∀ m ∈ groupsL g ids, ∀ y ∈ m, y ∈ ids := fun m hm y hy => by
    obtain ⟨v, -, rfl⟩ := List.mem_map.1 hm
    exact (withV_mem.1 hy).1
  rcases List.mem_append.1 hz with h2 | h2
  · obtain ⟨m, hm1, hm2⟩ := List.mem_flatten.1 h2
    exact h1 m (List.mem_of_mem_take hm1) z hm2
  · have h3 := List.mem_of_mem_take h2
    by_cases h4 : i < (groupsL g ids).length
    · exact (grp_mem h4 h3).1
    · have : (groupsL g ids).getD i [] = [] := by simp [List.getD, List.getElem?_eq_none (Nat.le_of_not_lt h4)]
      rw [this] at h3
      cases h3
theorem placed_nodup (ha : ids.Pairwise fun a b => a < b) : ∀ i k, i < (groupsL g ids).length → k ≤ ((groupsL g ids).getD i []).length → (placedL (groupsL g ids) i k).Nodup ∧ (placedL (groupsL g ids) (i + 1) 0).Nodup := by
  intro i
  induction i with
  | zero =>
    intro k hi hk
    have h1 : ∀ k, k ≤ ((groupsL g ids).getD 0 []).length → (placedL (groupsL g ids) 0 k).Nodup := fun k hk => by
      unfold placedL
      rw [List.take_zero]
      exact (asc_nodup (grp_asc ha hi)).sublist (List.take_sublist _ _)
    exact ⟨h1 k hk, by rw [placed_row hi]; exact h1 _ (Nat.le_refl _)⟩
  | succ i ih =>
    intro k hi hk
    have h0 : (placedL (groupsL g ids) (i + 1) 0).Nodup := (ih 0 (by omega) (Nat.zero_le _)).2
    have h1 : ∀ k, k ≤ ((groupsL g ids).getD (i + 1) []).length → (placedL (groupsL g ids) (i + 1) k).Nodup := by
      intro k
      induction k with
      | zero => exact fun _ => h0
      | succ k ihk =>
        intro hk
        rw [placed_next (by omega), List.nodup_append]
        refine ⟨ihk (by omega), by simp, fun a ha1 b hb e => ?_⟩
        rw [List.mem_singleton.1 hb] at e
        rw [e] at ha1
        exact placed_new ha hi (by omega) ha1
    exact ⟨h1 k hk, by rw [placed_row hi]; exact h1 _ (Nat.le_refl _)⟩
theorem placed_len (ha : ids.Pairwise fun a b => a < b) : (placedL (groupsL g ids) (groupsL g ids).length 0).length = ids.length := by
  have hn : (placedL (groupsL g ids) (groupsL g ids).length 0).Nodup := by
    by_cases h : (groupsL g ids).length = 0
    · rw [h]
      unfold placedL
      have : (groupsL g ids).getD 0 [] = [] := by simp [List.getD, List.getElem?_eq_none (Nat.le_of_eq h)]
      simp
    · have h1 := (placed_nodup (g := g) ha ((groupsL g ids).length - 1) 0 (by omega) (Nat.zero_le _)).2
      rw [show (groupsL g ids).length - 1 + 1 = (groupsL g ids).length from by omega] at h1
      exact h1
  exact ((List.perm_ext_iff_of_nodup hn (asc_nodup ha)).2 fun z => ⟨placed_sub (Nat.le_refl _), placed_all g ids⟩).length_eq
theorem closed_group {rs : List Rl} (h : GOk ids rs g) {S : Int → Bool} {x y : Int} (hx : x ∈ ids) (hy : y ∈ ids) (hg : g x = g y) (hS : ∀ r ∈ rs, S r.ta = S r.tb) (h0 : S x = true) : S y = true := by
  have h1 : Conn rs x y := (h.conn x hx).trans (by rw [hg]; exact (h.conn y hy).symm)
  have h2 := h1 (fun a b => S a = S b) (fun _ => rfl) (fun _ _ h => h.symm) (fun _ _ _ h h' => h.trans h') hS
  rw [← h2]
  exact h0
end
theorem good_form {ts : List Ta} (hv : ListV ts) {p1 q1 : Nat} {x : List Rl} (hx : x.Perm (goodL ts p1 q1)) {r : Rl} (hr : r ∈ x) : r.ta ∈ idsT ts ∧ r.tb ∈ idsT ts ∧ r.ta < r.tb ∧ 0 < r.co := by
  have hm := hx.mem_iff.1 hr
  unfold goodL at hm
  obtain ⟨hm1, hm2⟩ := List.mem_filter.1 hm
  obtain ⟨a, ha, b, hb, hab, i, j, hi, hj, rfl⟩ := mem_rels hm1
  refine ⟨List.mem_map.2 ⟨a, ha, rfl⟩, List.mem_map.2 ⟨b, hb, rfl⟩, hab, ?_⟩
  unfold enL Fr.enR at hm2
  simp only [Bool.and_eq_true, decide_eq_true_eq] at hm2
  have := hm2.1
  have h3 : (relL a b i j).co.toNat ≠ 0 := by simpa using this
  omega
end Go.Proofs.YtaajpliifdlokaaGreatDoor
