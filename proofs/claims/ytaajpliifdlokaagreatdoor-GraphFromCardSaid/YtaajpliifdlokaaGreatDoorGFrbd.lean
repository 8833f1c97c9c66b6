/- Contract of the sanity check of chapter 30: three tables, two of which have a value in common. Contract of the sanity check of chapter 30. Contract of the kit's Tables. -/
import Derived.Test.YtaajpliifdlokaaGreatDoorGFrbc
import Derived.Test.YtaajpliifdlokaaGreatDoorGFrav
import Derived.Test.YtaajpliifdlokaaGreatDoorGFrar
set_option linter.unusedVariables false
set_option linter.unusedSimpArgs false
namespace Go.Proofs.YtaajpliifdlokaaGreatDoor
open Go.RowKit
def oneT (id : Int) (s : ByteArray) : Ta := ⟨id, ⟨#[]⟩, [⟨⟨#[]⟩, [⟨false, s⟩]⟩]⟩
theorem one_read {W : World} {n : Nat} {S : Nat → Prop} {s : ByteArray} (h0 : BoxN W n 84 #[.bool false, .string s]) (h1 : BoxN W (n + 1) 55 #[.string ⟨#[]⟩, .slice (some ⟨n, 0, none⟩) 1 1]) (hS : S n) (hS1 : S (n + 1)) :
    RdCo W S (.slice (some ⟨n + 1, 0, none⟩) 1 1) [⟨⟨#[]⟩, [⟨false, s⟩]⟩] := by
  refine ⟨fun _ => .slice (some ⟨n, 0, none⟩) 1 1, ⟨some ⟨n + 1, 0, none⟩, 1, rfl, Nat.le_refl _, by unfold maxLen; omega, fun _ => ⟨n + 1, 0, rfl, hS1, fun i hi j hj => ?_⟩⟩, fun i hi => ⟨some ⟨n, 0, none⟩, 1, ?_, ?_, by unfold maxLen; omega, fun _ => ⟨n, 0, rfl, hS, fun i' hi' j hj => ?_⟩⟩⟩
  · have hi0 : i = 0 := Nat.lt_one_iff.1 hi
    subst hi0
    rcases (show j = 0 ∨ j = 1 by omega) with rfl | rfl
    · exact h1.cell 0 rfl
    · exact h1.cell 1 rfl
  · have hi0 : i = 0 := Nat.lt_one_iff.1 hi
    subst hi0
    rfl
  · have hi0 : i = 0 := Nat.lt_one_iff.1 hi
    subst hi0
    exact Nat.le_refl _
  · have hi0 : i = 0 := Nat.lt_one_iff.1 hi
    subst hi0
    have hi1 : i' = 0 := Nat.lt_one_iff.1 hi'
    subst hi1
    rcases (show j = 0 ∨ j = 1 by omega) with rfl | rfl
    · exact h0.cell 0 rfl
    · exact h0.cell 1 rfl
def OneTP (w : World) (id : Int) (s : ByteArray) (e : Ending) (w' : World) : Prop :=
  ∃ a, e = .returned (.agg #[.int .i64 id, .string ⟨#[]⟩, .slice (some a) 1 1]) ∧ RdCo w' (News w w') (.slice (some a) 1 1) (oneT id s).cols ∧ Below w.heap.size w w'
set_option maxRecDepth 100000 in
set_option maxHeartbeats 2000000 in
theorem law30_one (id : Int) (s : ByteArray) (w : World) : Calls Tryz.prog 34 #[.int .i64 id, .string s] w (OneTP w id s) := by
  have hF := ((BoxN.new w #[.int .i64 id, .string ⟨#[]⟩, .slice (some ⟨w.heap.size + 1 + 1, 0, none⟩) 1 1] 51).alloc (.cells #[.bool false, .string s] 84)).alloc (.cells #[.string ⟨#[]⟩, .slice (some ⟨w.heap.size + 1, 0, none⟩) 1 1] 55)
  have h1 := (BoxN.new (w.alloc (.cells #[.int .i64 id, .string ⟨#[]⟩, .slice (some ⟨w.heap.size + 1 + 1, 0, none⟩) 1 1] 51)) #[.bool false, .string s] 84).alloc (.cells #[.string ⟨#[]⟩, .slice (some ⟨w.heap.size + 1, 0, none⟩) 1 1] 55)
  have h2 := BoxN.new ((w.alloc (.cells #[.int .i64 id, .string ⟨#[]⟩, .slice (some ⟨w.heap.size + 1 + 1, 0, none⟩) 1 1] 51)).alloc (.cells #[.bool false, .string s] 84)) #[.string ⟨#[]⟩, .slice (some ⟨w.heap.size + 1, 0, none⟩) 1 1] 55
  simp only [World.size_alloc] at h1 h2
  have HRD := hid (one_read h1 h2 (S := News w (((w.alloc (.cells #[.int .i64 id, .string ⟨#[]⟩, .slice (some ⟨w.heap.size + 1 + 1, 0, none⟩) 1 1] 51)).alloc (.cells #[.bool false, .string s] 84)).alloc (.cells #[.string ⟨#[]⟩, .slice (some ⟨w.heap.size + 1, 0, none⟩) 1 1] 55))) ⟨by omega, by simp only [World.size_alloc]; omega⟩ ⟨by omega, by simp only [World.size_alloc]; omega⟩)
  clear h1 h2
  have d0 := hF.cell 0 rfl
  have d1 := hF.cell 1 rfl
  have d2 := hF.cell 2 rfl
  have D0 := hid d0
  have D1 := hid d1
  have D2 := hid d2
  clear hF d0 d1 d2
  go_enter Tryz.func34, Tryz.ntmps34
  go_wp2
  have d0 := D0.out
  have d1 := D1.out
  have d2 := D2.out
  refine bodyPost_ret (v := .agg #[.int .i64 id, .string ⟨#[]⟩, .slice (some ⟨w.heap.size + 1 + 1, 0, none⟩) 1 1]) (by simp [results, Tryz.results34, go_sem, d0, d1, d2]) rfl ⟨_, rfl, HRD.out, ?_⟩
  repeat' (first | (with_reducible exact Below.refl _ _) | (with_reducible assumption) | (with_reducible refine below_drewN ?_) | (with_reducible refine Below.alloc ?_ ?_ _) | (with_reducible refine Below.drew ?_) | (with_reducible refine Below.setCell ?_ ?_ _) | (with_reducible refine Below.trans ?_ (Below.mono (by with_reducible assumption) ?_)) | go_size)
def Rl.ns (r : Rl) : List Int := [r.ta, r.ca, r.tb, r.cb, r.co, r.oa, r.ob, r.ma, r.mb, r.la, r.lb]
instance : DecidableEq Rl := fun a b => decidable_of_iff (a.ns = b.ns) (by
  obtain ⟨a1, a2, a3, a4, a5, a6, a7, a8, a9, a10, a11⟩ := a
  obtain ⟨b1, b2, b3, b4, b5, b6, b7, b8, b9, b10, b11⟩ := b
  simp [Rl.ns])
def ts30 : List Ta := [oneT 1 ⟨#[120]⟩, oneT 2 ⟨#[121]⟩, oneT 3 ⟨#[120]⟩]
def r30 : Rl := ⟨1, 0, 3, 0, 1, 0, 0, 1, 1, 0, 0⟩
theorem good30 : goodL ts30 1 2 = [r30] := by decide +kernel
end Go.Proofs.YtaajpliifdlokaaGreatDoor

namespace Go.Proofs.YtaajpliifdlokaaGreatDoor
open Go.RowKit
theorem one_tab {id : Int} {s : ByteArray} (h0 : 0 ≤ id) (h1 : id ≤ 1073741824) (hs : TextOk 8 s) : TabV (oneT id s) := by
  have he : TextOk 1024 (⟨#[]⟩ : ByteArray) := by unfold TextOk; decide +kernel
  refine ⟨h0, h1, he, by simp [oneT], 1, by omega, fun x hx => ?_⟩
  have e : x = ⟨⟨#[]⟩, [⟨false, s⟩]⟩ := by simpa [oneT] using hx
  subst e
  refine ⟨he, rfl, fun c hc => ?_⟩
  have e2 : c = ⟨false, s⟩ := by simpa using hc
  subst e2
  exact cellOk_text hs
theorem list30 : ListV ts30 := by
  have hx : TextOk 8 (⟨#[120]⟩ : ByteArray) := by unfold TextOk; decide +kernel
  have hy : TextOk 8 (⟨#[121]⟩ : ByteArray) := by unfold TextOk; decide +kernel
  refine ⟨by simp [ts30], fun t ht => ?_, by simp [ts30, oneT]⟩
  simp [ts30] at ht
  rcases ht with rfl | rfl | rfl
  · exact one_tab (by omega) (by omega) hx
  · exact one_tab (by omega) (by omega) hy
  · exact one_tab (by omega) (by omega) hx
theorem few30 : FewT ts30 := ⟨by simp [ts30], fun t ht => by
  simp [ts30] at ht
  rcases ht with rfl | rfl | rfl <;> simp [oneT]⟩
theorem ids30 : idsT ts30 = [1, 2, 3] := rfl
theorem groups30 {g : Int → Int} (h : GroupsOk (idsT ts30) [r30] g) : groupsL g (idsT ts30) = [[1, 3], [2]] := by
  rw [ids30] at h ⊢
  obtain ⟨h1, h2⟩ := h
  have a1 := h1.low 1 (by simp)
  have a2 := h1.low 2 (by simp)
  have m1 := h1.mem 1 (by simp)
  have m2 := h1.mem 2 (by simp)
  simp at m1 m2
  have e1 : g 1 = 1 := by omega
  have e3 : g 3 = 1 := by
    have h3 := h2 r30 (by simp)
    simp only [r30] at h3
    rw [← h3, e1]
  have e2 : g 2 = 2 := by
    have h3 := h1.conn 2 (by simp) (fun a b => (a = 2 ↔ b = 2)) (fun a => Iff.rfl) (fun a b h => h.symm) (fun a b c h h' => h.trans h') (fun r hr => by
      rw [List.mem_singleton.1 hr]
      simp [r30])
    simp only at h3
    first | exact h3.1 rfl | exact h3.1 trivial | simpa using h3
  simp [groupsL, headsL, withV, e1, e2, e3]
theorem ta3_read {W : World} {n : Nat} {S : Nat → Prop} {a b c : Ta} {u v x : Value} (h : BoxN W n 51 #[.int .i64 a.id, .string a.name, u, .int .i64 b.id, .string b.name, v, .int .i64 c.id, .string c.name, x]) (hS : S n)
    (hu : RdCo W S u a.cols) (hv : RdCo W S v b.cols) (hx : RdCo W S x c.cols) : RdTa W S (.slice (some ⟨n, 0, none⟩) 3 3) [a, b, c] := by
  refine ⟨three u v x, ⟨some ⟨n, 0, none⟩, 3, rfl, Nat.le_refl _, by unfold maxLen; omega, fun _ => ⟨n, 0, rfl, hS, fun i hi j hj => ?_⟩⟩, fun i hi => ?_⟩
  · have hi' : i < 3 := hi
    rcases (show i = 0 ∨ i = 1 ∨ i = 2 by omega) with rfl | rfl | rfl <;> rcases (show j = 0 ∨ j = 1 ∨ j = 2 by omega) with rfl | rfl | rfl
    · exact h.cell 0 rfl
    · exact h.cell 1 rfl
    · exact h.cell 2 rfl
    · exact h.cell 3 rfl
    · exact h.cell 4 rfl
    · exact h.cell 5 rfl
    · exact h.cell 6 rfl
    · exact h.cell 7 rfl
    · exact h.cell 8 rfl
  · have hi' : i < 3 := hi
    rcases (show i = 0 ∨ i = 1 ∨ i = 2 by omega) with rfl | rfl | rfl
    · exact hu
    · exact hv
    · exact hx
theorem rdCo_up {w w' : World} {S : Nat → Prop} {v : Value} {xs : List Co} (h : RdCo w S v xs) (hS : ∀ b, S b → b < w.heap.size) (hb : Below w.heap.size w w') : RdCo w' (· < w'.heap.size) v xs :=
  (h.keep fun p hp => hb.cell (p := p) (hS _ hp)).more fun b hb' => Nat.lt_of_lt_of_le (hS b hb') hb.size
set_option maxRecDepth 100000 in
set_option maxHeartbeats 8000000 in
theorem law30_awake (w : World) (hT : Tabs w) (h1 : Fr.OneAt w) : Calls Tryz.prog 9 #[] w (Ret w (.bool true)) := by
 have HT := hid hT
 have H1 := hid h1
 clear hT h1
 go_enter Tryz.func9, Tryz.ntmps9
 go_wp2_with fail
 with_reducible refine (law30_one 1 ⟨#[120]⟩ w).mono ?_
 rintro e w1 ⟨a1, rfl, hr1, hb1⟩
 have HR1 := hid hr1
 have HB1 := hid hb1
 clear hr1 hb1
 go_wp2_with fail
 with_reducible refine (law30_one 2 ⟨#[121]⟩ w1).mono ?_
 rintro e w2 ⟨a2, rfl, hr2, hb2⟩
 have HR2 := hid hr2
 have HB12 := hid hb2
 have HB2 := hid (HB1.out.trans (hb2.mono HB1.out.size))
 clear hr2 hb2
 go_wp2_with fail
 with_reducible refine (law30_one 3 ⟨#[120]⟩ w2).mono ?_
 rintro e w3 ⟨a3, rfl, hr3, hb3⟩
 have HB23 := hid hb3
 have HB3 := hid (HB2.out.trans (hb3.mono HB2.out.size))
 have HRA := hid (rdCo_up HR1.out (fun b h => h.2) (HB12.out.trans (hb3.mono HB12.out.size)))
 have HRB := hid (rdCo_up HR2.out (fun b h => h.2) hb3)
 have HRC := hid (hr3.more (S' := (· < w3.heap.size)) fun b h => h.2)
 have h3s := HB3.out.size
 clear hr3 hb3 HR1 HR2
 have hbx := BoxN.new w3 #[.int .i64 1, .string ⟨#[]⟩, .slice (some a1) 1 1, .int .i64 2, .string ⟨#[]⟩, .slice (some a2) 1 1, .int .i64 3, .string ⟨#[]⟩, .slice (some a3) 1 1] 51
 have hsx := (Below.refl w3.heap.size w3).alloc (Nat.le_refl _) (.cells #[.int .i64 1, .string ⟨#[]⟩, .slice (some a1) 1 1, .int .i64 2, .string ⟨#[]⟩, .slice (some a2) 1 1, .int .i64 3, .string ⟨#[]⟩, .slice (some a3) 1 1] 51)
 obtain ⟨X, hX⟩ : ∃ W, W = w3.alloc (.cells #[.int .i64 1, .string ⟨#[]⟩, .slice (some a1) 1 1, .int .i64 2, .string ⟨#[]⟩, .slice (some a2) 1 1, .int .i64 3, .string ⟨#[]⟩, .slice (some a3) 1 1] 51) := ⟨_, rfl⟩
 rw [← hX] at hbx hsx
 have HRD : Hid (RdTa X (· < X.heap.size) (.slice (some ⟨w3.heap.size, 0, none⟩) 3 3) ts30) := hid (ta3_read (a := oneT 1 ⟨#[120]⟩) (b := oneT 2 ⟨#[121]⟩) (c := oneT 3 ⟨#[120]⟩) hbx hbx.lt (rdCo_up HRA.out (fun b h => h) hsx) (rdCo_up HRB.out (fun b h => h) hsx) (rdCo_up HRC.out (fun b h => h) hsx))
 have HBX := hid (HB3.out.trans (hsx.mono h3s))
 clear hbx hsx HRA HRB HRC
 have HPA : Hid (∀ W, Calls Tryz.prog 12 #[.int .i64 1, .int .i64 2] W (Fr.GivesF W false 1 2)) := hid (fun W => Fr.ref_Part 1 2 W (by omega) (by omega) (by omega))
 go_wp2_with fail
 rw [← hX]
 clear hX
 with_reducible refine (HPA.out X).mono ?_
 rintro e w4 ⟨a4, c4, b4, d4, rfl, hN4, hb4⟩
 have HB4 := hid (HBX.out.trans (hb4.mono HBX.out.size))
 have HRD4 := hid (rdTa_next HRD.out hb4)
 have HBU := hid (graph_Build (.slice (some ⟨w3.heap.size, 0, none⟩) 3 3) (.agg #[.bool false, .slice a4 (Fr.dig 1).length c4, .bool false, .slice b4 (Fr.dig 2).length d4]) ts30 1 2 w4.heap.size w4 list30 few30 HRD4.out (Nat.le_refl _) (hN4.rd false) ⟨by omega, by omega, by omega, by decide⟩ (by omega) (HT.out.below HB4.out) (H1.out.below HB4.out))
 clear hN4 hb4
 go_wp2_with fail
 with_reducible refine HBU.out.mono ?_
 rintro e w5 ⟨x5, rs, rfl, hp, -, hown, hb5⟩
 rw [good30] at hp
 have hrs : rs = [r30] := List.perm_singleton.1 hp
 subst hrs
 have HOW := hid hown
 obtain ⟨xa, xc, rfl⟩ := hown.len
 have HB5 := hid (HB4.out.trans (hb5.mono HB4.out.size))
 have HRD5 := hid (rdTa_next HRD4.out hb5)
 have hrl := hown.read.more (S' := (· < w5.heap.size)) fun b hb => hb.2
 have HRL := hid (fun W (hW : Below w5.heap.size w5 W) => (hrl.keep (w' := W) fun p (hp : p.block < w5.heap.size) => hW.cell (p := p) hp : RdRl W (· < w5.heap.size) (.slice xa 1 xc) [r30]))
 have HGR := hid (graph_Groups (.slice (some ⟨w3.heap.size, 0, none⟩) 3 3) (.slice xa 1 xc) ts30 [r30] w5.heap.size w5 list30 HRD5.out (HRL.out w5 (Below.refl _ _)) (Nat.le_refl _) (fun r hr => by rw [List.mem_singleton.1 hr, ids30]; simp [r30]) (by simp))
 clear hp hown hb5 hrl HBU
 go_wp2_with fail
 with_reducible refine HGR.out.mono ?_
 rintro e w6 ⟨g, x6, vs, rfl, hgo, hgr, hb6⟩
 have hg30 := groups30 hgo
 rw [hg30] at hgr
 have HB6 := hid (HB5.out.trans (hb6.mono HB5.out.size))
 have HB56 := hid hb6
 obtain ⟨ga, gc, rfl⟩ := own_slice hgr.row
 obtain ⟨gb, hgb⟩ := slice_block hgr.row (by simp)
 subst hgb
 have hvl := hgr.len
 have c0 : w6.cell? ⟨gb, 0, none⟩ = some (vs.getD 0 nilS) := by
  rw [hgr.row.cellAt 0 (by simp)]
  have h1 : 0 < vs.length := by rw [hvl]; simp
  simp [List.getD, h1]
 obtain ⟨ia, ic, hiv⟩ := own_slice (hgr.kids 0 (by simp))
 rw [hiv] at c0
 have HFR := hid (fun W (hW : Below w5.heap.size w5 W) => graph_From (.slice xa 1 xc) [r30] 3 w5.heap.size W (HRL.out W hW) hW.size (by simp))
 clear hgo hgr hb6 hiv HGR
 have HF1 : Hid (fromR [r30] 3 = [r30.turn]) := hid (by decide +kernel)
 have HF2 : Hid (r30.turn.ta = 3) := hid (by decide +kernel)
 go_wp2_with fail
 with_reducible refine (HFR.out w6 HB56.out).mono ?_
 rintro e w7 ⟨x7, rfl, ho7, hb7⟩
 rw [HF1.out] at ho7
 obtain ⟨ya, yc, rfl⟩ := ho7.len
 have HB57 := hid (HB56.out.trans (hb7.mono HB56.out.size))
 have HB7 := hid (HB6.out.trans (hb7.mono HB6.out.size))
 clear ho7 hb7
 go_wp2_with fail
 with_reducible refine (HFR.out w7 HB57.out).mono ?_
 rintro e w8 ⟨x8, rfl, ho8, hb8⟩
 rw [HF1.out] at ho8
 obtain ⟨b, o, c', e8, hb, k0, -⟩ := rl_at ho8.read (q := 0) (by simp)
 subst e8
 have k0' : w8.cell? ⟨b, o, none⟩ = some (.int .i64 3) := by
  have := k0
  simp only [Nat.zero_mul, Nat.add_zero] at this
  rw [this]
  simp [HF2.out]
 have HB8 := hid (HB7.out.trans (hb8.mono HB7.out.size))
 clear ho8 hb8 k0
 go_wp2_with fail
 go_ret
 exact ⟨rfl, HB8.out⟩
end Go.Proofs.YtaajpliifdlokaaGreatDoor

namespace Go.Proofs.YtaajpliifdlokaaGreatDoor
open Go.RowKit
theorem Roll.put {B g : Nat} {a b : World} (h : Roll B g a b) {p : Addr} (hp : B ≤ p.block) (v : Value) : Roll B g a (b.setCell p v) :=
  h.trans (Roll.of_below ((Below.refl B b).setCell hp v) g)
structure KLs (w0 w : World) (g z : Nat) (v : Value) (ts : List Ta) : Prop where
  own : TaSt w w0.heap.size 51 v ts
  ok : ∀ t ∈ ts, TabV t ∧ t.id ≤ (z : Int)
  asc : ts.Pairwise (fun a b => a.id < b.id)
  few : ∀ t ∈ ts, t.cols.length ≤ 3
  dice : KDice w g
  roll : Roll w0.heap.size g w0 w
section
variable {w0 w w' : World} {g z : Nat} {v : Value} {ts : List Ta}
theorem KLs.rolled (h : KLs w0 w g z v ts) (hr : Roll w.heap.size g w w') (hd : KDice w' g) (hg : g < w0.heap.size) : KLs w0 w' g z v ts :=
  ⟨h.own.roll hr (Nat.le_refl _) hg, h.ok, h.asc, h.few, hd, h.roll.trans (hr.mono h.roll.size)⟩
theorem KLs.alloc (h : KLs w0 w g z v ts) (hg : g < w0.heap.size) (O : Obj) : KLs w0 (w.alloc O) g z v ts :=
  h.rolled ((Roll.refl _ _ _).alloc (Nat.le_refl _) O) (h.dice.alloc O) hg
theorem KLs.push (h : KLs w0 w g z v ts) {x : Ta} {z' : Nat} (hx : TabV x) (hxi : x.id = (z' : Int)) (hz : z < z') {L : List Value} {u : Value} {p m cap : Nat} (hm : m = ts.length + 1) (hL : w.ownsRow w0.heap.size 51 3 v ts.length L)
    (hown : w'.ownsRow w0.heap.size 51 3 (.slice (some ⟨p, 0, none⟩) m cap) m (L ++ [.int .i64 x.id, .string x.name, u])) (hgr : w.grownBy w' v.ownBlock) (hat : v.ownBlock = some p ∨ p = w.heap.size)
    (hnew : RdCo w (Own w w0.heap.size v) u x.cols) (hg : g < w0.heap.size) (hx3 : x.cols.length ≤ 3) : KLs w0 w' g z' (.slice (some ⟨p, 0, none⟩) m cap) (ts ++ [x]) := by
  have hv : ∀ k, v.ownBlock = some k → w0.heap.size ≤ k := fun k hk => (hL.lt k hk).1
  have hrz := h.roll.size
  have hx' : ∀ k, k < w0.heap.size → w'.heap[k]? = w.heap[k]? := fun k hk => hgr.block k (by omega) (fun e => by have := hv k e.symm; omega)
  refine ⟨h.own.push hL hm hown hgr hat hnew, ?_, ?_, ?_, h.dice.keep fun k hk => hx' k (by omega), h.roll.trans ⟨hgr.os, hgr.tape, hgr.output, hgr.size, fun k hk _ => hx' k hk⟩⟩
  · intro y hy
    rcases List.mem_append.1 hy with h1 | h1
    · exact ⟨(h.ok y h1).1, by have := (h.ok y h1).2; omega⟩
    · rw [List.mem_singleton.1 h1]; exact ⟨hx, by omega⟩
  · refine List.pairwise_append.2 ⟨h.asc, List.pairwise_singleton _ _, fun a ha b hb => ?_⟩
    rw [List.mem_singleton.1 hb, hxi]
    have := (h.ok a ha).2
    omega
  · intro y hy
    rcases List.mem_append.1 hy with h1 | h1
    · exact h.few y h1
    · rw [List.mem_singleton.1 h1]; exact hx3
end
def KLis (w : World) (g T : Nat) (e : Ending) (w' : World) : Prop :=
  ∃ (ts : List Ta) (v : Value), e = .returned v ∧ RdTa w' (fun b => w.heap.size ≤ b ∧ b < w'.heap.size) v ts ∧ 0 < ts.length ∧ ts.length ≤ max T 1 ∧ ListV ts ∧ KDice w' g ∧ Roll w.heap.size g w w'
def KLis3 (w : World) (g T : Nat) (e : Ending) (w' : World) : Prop :=
  ∃ (ts : List Ta) (v : Value), e = .returned v ∧ RdTa w' (fun b => w.heap.size ≤ b ∧ b < w'.heap.size) v ts ∧ 0 < ts.length ∧ ts.length ≤ max T 1 ∧ ListV ts ∧ (∀ t ∈ ts, t.cols.length ≤ 3) ∧ KDice w' g ∧ Roll w.heap.size g w w'
end Go.Proofs.YtaajpliifdlokaaGreatDoor
