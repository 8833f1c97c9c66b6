/- Contracts of posting.New and posting.Add. -/
import Derived.Test.YtabemneoobbnaaaGreatDoorOf
import Derived.Test.YtabemneoobbnaaaGreatDoorOg
namespace Go.Proofs.YtabemneoobbnaaaGreatDoor
open Go.RowKit

theorem posting_New (w : World) : Calls Tryz.prog 34 #[] w (Ret w (.agg #[.slice none 0 0, .slice none 0 0, .slice none 0 0])) := by
  go_enter Tryz.func34, Tryz.ntmps34
  go_wp2
  exact bodyPost_ret (v := .agg #[.slice none 0 0, .slice none 0 0, .slice none 0 0]) (by simp [results, Tryz.results34, go_sem]) rfl ⟨rfl, by have := Below.refl w.heap.size w; repeat' (first | (with_reducible exact Below.refl _ _) | (with_reducible assumption) | (with_reducible refine below_drewN ?_) | (with_reducible refine Below.alloc ?_ ?_ _) | (with_reducible refine Below.drew ?_) | (with_reducible refine Below.setCell ?_ ?_ _) | (with_reducible refine Below.trans ?_ (Below.mono (by with_reducible assumption) ?_)) | go_size)⟩

/-- columns' base lowered -/
theorem CvSt.base {w : World} {base base' : Nat} {e : TypeId} {v : Value} {cs : List Cv} (h : CvSt w base e v cs) (hb : base' ≤ base) : CvSt w base' e v cs := by
  obtain ⟨vv, h⟩ := h
  exact ⟨vv, own_base h.row hb, Nat.le_trans hb h.low, fun i hi => InK.more (h.kids i hi) fun b hb' => ⟨Nat.le_trans hb hb'.1, hb'.2.1, hb'.2.2⟩⟩
/-- an index of columns that a call hands back -/
def IxP (w : World) (cs : List Cv) (mk : Value → Value) (e : Ending) (w' : World) : Prop :=
  ∃ cs' ev vv lv, CvsOk cs' ∧ StrOk cs' ∧ cs'.Perm cs ∧ e = .returned (mk (.agg #[ev, vv, lv])) ∧ RdIx w' (News w w') ev vv lv (indexOf cs') ∧ Below w.heap.size w w'
abbrev okV (v : Value) : Value := .tuple #[v, .int .i64 0]

theorem below_grown {w W W' : World} {r : Option Nat} (h : Below w.heap.size w W) (hg : W.grownBy W' r) (hr : ∀ k, r = some k → w.heap.size ≤ k) : Below w.heap.size w W' :=
  h.trans ⟨hg.os, hg.tape, hg.output, hg.size, fun k hk => hg.block k (Nat.lt_of_lt_of_le hk h.size) (fun e => by have := hr k e.symm; omega)⟩
theorem CvSt.alloc {w : World} {base : Nat} {e : TypeId} {v : Value} {cs : List Cv} (h : CvSt w base e v cs) (O : Obj) : CvSt (w.alloc O) base e v cs := by
  obtain ⟨vv, h⟩ := h
  exact ⟨vv, h.alloc (fun i _ => keeps_s _ _) O⟩
theorem CvSt.form {w : World} {base : Nat} {e : TypeId} {v : Value} {cs : List Cv} {n : Nat} (h : CvSt w base e v cs) (hn : cs.length = n) : ∃ a c L, v = .slice a n c ∧ w.ownsRow base e 3 (.slice a n c) n L := by
  subst hn
  obtain ⟨vv, h⟩ := h
  obtain ⟨a, c, rfl⟩ := own_slice h.row
  exact ⟨a, c, _, rfl, h.row⟩

/-- an index that is stored into a result's box -/
theorem ix_stored {w w9 : World} {B b : Nat} {e v l : Value} {x : Ix} (h : RdIx w9 (fun k => B ≤ k ∧ k < w9.heap.size) e v l x) (hb : Below w.heap.size w w9) (hB : w.heap.size ≤ B) (hbb : b < B) (x0 x1 x2 : Value) :
    RdIx (((w9.setCell ⟨b, 0, none⟩ x0).setCell ⟨b, 1, none⟩ x1).setCell ⟨b, 2, none⟩ x2) (News w (((w9.setCell ⟨b, 0, none⟩ x0).setCell ⟨b, 1, none⟩ x1).setCell ⟨b, 2, none⟩ x2)) e v l x :=
  (h.keep fun p hp => by
    have hne : p.block ≠ b := by have := hp.1; omega
    rw [World.cell?_setCell_other _ _ _ _ (by intro e; subst e; exact hne rfl), World.cell?_setCell_other _ _ _ _ (by intro e; subst e; exact hne rfl), World.cell?_setCell_other _ _ _ _ (by intro e; subst e; exact hne rfl)]).more fun k hk => ⟨by omega, by simp; omega⟩

set_option maxRecDepth 100000 in
set_option maxHeartbeats 4000000 in
theorem posting_Add (cs : List Cv) (hok : CvsOk cs) (hcs : StrOk cs) (ev vv lv v : Value) (B : Nat) (r : Int × Nat) (X : List ByteArray) (w : World) (hx : RdIx w (· < B) ev vv lv (indexOf cs)) (hB : B ≤ w.heap.size)
    (hv : InS w (· < B) v X) (ha : Asc X) (hl : X.length ≤ 4096) (hs : ∀ s ∈ X, s.size ≤ maxLen) (h1 : 0 ≤ r.1) (h2 : r.1 ≤ 1073741824) (hr : ∀ c ∈ cs, c.1 ≠ r) (hm : cs.length < 65536) :
    Calls Tryz.prog 35 #[.agg #[ev, vv, lv], .agg #[.int .i64 r.1, .int .i64 (r.2 : Int)], v] w (IxP w (cs ++ [(r, X)]) okV) := by
  obtain ⟨r1, r2⟩ := r
  simp only at h1 h2
  obtain ⟨i0, hi, hz0, hz1, hz2⟩ := info_parts info_set
  have HAL : Hid (ColsOk (cs ++ [((r1, r2), X)])) := hid ((hok.cols hcs).app (ColsOk.one h1 h2 ha hl hs))
  have HDF : Hid (Diff (cs ++ [((r1, r2), X)])) := hid (by
    unfold Diff
    rw [List.pairwise_append]
    refine ⟨diff_of hok.up, List.pairwise_singleton _ _, fun a ha b hb => ?_⟩
    rw [List.mem_singleton] at hb
    subst hb
    exact hr a ha)
  have HVLD := hid (fun W (hW : Below w.heap.size w W) => posting_Valid cs hok ev vv lv B W (hx.keep fun p (hp : p.block < B) => hW.cell (p := p) (by omega)) (by have := hW.size; omega))
  have HIS := hid (fun W (hW : Below w.heap.size w W) => text_IsSet v X B W (Rd.below (InS.rds hv fun b h => h) hW hB))
  rw [isSet_asc ha] at HIS
  have HNM := hid (fun W => posting_named r1 (r2 : Int) W h1 h2 (by omega))
  have HCO := hid (fun W (hW : Below w.heap.size w W) => posting_Column (indexOf cs) ev vv lv r1 (r2 : Int) B W (hx.keep fun p (hp : p.block < B) => hW.cell (p := p) (by omega)) (by have := hW.size; omega) (by rw [show (indexOf cs).ents.length = cs.length from ents_len cs]; omega))
  have HF : Hid (findR (refsE (indexOf cs).ents) (r1, (r2 : Int)) 0 = -1) := hid (find_no (r := (r1, r2)) hr)
  rw [HF.out] at HCO
  have HST := hid (fun W (hW : Below w.heap.size w W) => posting_sets cs hok ev vv lv B W (hx.keep fun p (hp : p.block < B) => hW.cell (p := p) (by omega)) (by have := hW.size; omega))
  have HNEW := hid (fun W (hW : Below w.heap.size w W) => (show InS W (· < w.heap.size) v X from (InK.keep hv fun p (hp : p.block < B) => hW.cell (p := p) (by omega)).more fun b hb => by omega))
  obtain ⟨ea, ec, rfl, -⟩ := hx.ents
  obtain ⟨va, vc, rfl, -⟩ := hx.vals
  obtain ⟨lf, ⟨la, lc, rfl, -⟩, -⟩ := hx.lists
  obtain ⟨xa, xc, rfl, -⟩ := hv
  clear hx hok hcs ha hs hr HF
  generalize (indexOf cs).ents.length = n1 at *
  generalize (indexOf cs).vals.length = n2 at *
  generalize (indexOf cs).lists.length = n3 at *
  generalize hxl : X.length = xl at *
  have HXL := hid hxl
  clear hxl
  generalize hnn : cs.length = n at *
  have HN := hid hnn
  clear hnn
  have HB3 : Hid (Below w.heap.size w (((w.alloc (.cells #[.slice ea n1 ec, .slice va n2 vc, .slice la n3 lc] 40)).alloc (.cells #[.int .i64 r1, .int .i64 (r2 : Int)] 47)).alloc (.cells #[.slice none 0 0, .slice none 0 0, .slice none 0 0] 40))) := hid (by have := Below.refl w.heap.size w; repeat' (first | (with_reducible exact Below.refl _ _) | (with_reducible assumption) | (with_reducible refine below_drewN ?_) | (with_reducible refine Below.alloc ?_ ?_ _) | (with_reducible refine Below.drew ?_) | (with_reducible refine Below.setCell ?_ ?_ _) | (with_reducible refine Below.trans ?_ (Below.mono (by with_reducible assumption) ?_)) | go_size))
  have HX3 := hid (((BoxN.new w #[.slice ea n1 ec, .slice va n2 vc, .slice la n3 lc] 40).alloc (.cells #[.int .i64 r1, .int .i64 (r2 : Int)] 47)).alloc (.cells #[.slice none 0 0, .slice none 0 0, .slice none 0 0] 40))
  have HR3 := hid ((BoxN.new (w.alloc (.cells #[.slice ea n1 ec, .slice va n2 vc, .slice la n3 lc] 40)) #[.int .i64 r1, .int .i64 (r2 : Int)] 47).alloc (.cells #[.slice none 0 0, .slice none 0 0, .slice none 0 0] 40))
  have HO3 := hid (BoxN.new ((w.alloc (.cells #[.slice ea n1 ec, .slice va n2 vc, .slice la n3 lc] 40)).alloc (.cells #[.int .i64 r1, .int .i64 (r2 : Int)] 47)) #[.slice none 0 0, .slice none 0 0, .slice none 0 0] 40)
  rw [World.size_alloc] at HR3
  rw [World.size_alloc, World.size_alloc] at HO3
  go_enter Tryz.func35, Tryz.ntmps35
  go_upto_region 1 with fail
  generalize ((w.alloc (.cells #[.slice ea n1 ec, .slice va n2 vc, .slice la n3 lc] 40)).alloc (.cells #[.int .i64 r1, .int .i64 (r2 : Int)] 47)).alloc (.cells #[.slice none 0 0, .slice none 0 0, .slice none 0 0] 40) = W3 at *
  have x0 := HX3.out.cell 0 rfl
  have x1 := HX3.out.cell 1 rfl
  have x2 := HX3.out.cell 2 rfl
  go_wp2_with fail
  with_reducible refine (HVLD.out _ HB3.out).mono ?_
  rintro e w4 ⟨rfl, hb4⟩
  have HB4 := hid (HB3.out.trans (hb4.mono HB3.out.size))
  have HX4 := hid (HX3.out.below hb4 HX3.out.lt)
  have HR4 := hid (HR3.out.below hb4 HR3.out.lt)
  have HO4 := hid (HO3.out.below hb4 HO3.out.lt)
  clear hb4 x0 x1 x2 HVLD
  go_wp2_with fail
  with_reducible refine (HIS.out _ HB4.out).mono ?_
  rintro e w5 ⟨rfl, k5, rfl⟩
  have HB5 := hid (below_drewN (n := k5) HB4.out)
  have HX5 := hid (HX4.out.drewN k5)
  have HR5 := hid (HR4.out.drewN k5)
  have HO5 := hid (HO4.out.drewN k5)
  generalize w4.drewN k5 = w5 at *
  have r0 := HR5.out.cell 0 rfl
  have r1' := HR5.out.cell 1 rfl
  clear HIS HB3 HB4 HX3 HX4 HR3 HR4 HO3 HO4
  go_wp2_with fail
  with_reducible refine (HNM.out _).mono ?_
  rintro e w6 ⟨rfl, hb6⟩
  have HB6 := hid (HB5.out.trans (hb6.mono HB5.out.size))
  have HX6 := hid (HX5.out.below hb6 HX5.out.lt)
  have HR6 := hid (HR5.out.below hb6 HR5.out.lt)
  have HO6 := hid (HO5.out.below hb6 HO5.out.lt)
  clear hb6 r0 r1' HNM HB5 HX5 HR5 HO5
  have x0 := HX6.out.cell 0 rfl
  have x1 := HX6.out.cell 1 rfl
  have x2 := HX6.out.cell 2 rfl
  have r0 := HR6.out.cell 0 rfl
  have r1' := HR6.out.cell 1 rfl
  have hd0 : decide ((4096 : Int) < (xl : Int)) = false := decide_eq_false (by omega)
  go_wp2_with fail
  with_reducible refine (HCO.out _ HB6.out).mono ?_
  rintro e w7 ⟨rfl, hb7⟩
  have HB7 := hid (HB6.out.trans (hb7.mono HB6.out.size))
  have HX7 := hid (HX6.out.below hb7 HX6.out.lt)
  have HR7 := hid (HR6.out.below hb7 HR6.out.lt)
  have HO7 := hid (HO6.out.below hb7 HO6.out.lt)
  clear hb7 x0 x1 x2 r0 r1' HCO HB6 HX6 HR6 HO6
  go_wp2_with fail
  have hz7 := HB7.out.size
  have hzo := HO7.out.lt
  have x0 := HX7.out.cell 0 rfl
  have x1 := HX7.out.cell 1 rfl
  have x2 := HX7.out.cell 2 rfl
  have r0 := HR7.out.cell 0 rfl
  have r1' := HR7.out.cell 1 rfl
  have HB77 := hid (Below.refl w7.heap.size w7)
  have HXW := hid (fun W (hW : Below w7.heap.size w7 W) => HX7.out.below hW HX7.out.lt)
  have HRW := hid (fun W (hW : Below w7.heap.size w7 W) => HR7.out.below hW HR7.out.lt)
  have HOW := hid (fun W (hW : Below w7.heap.size w7 W) => HO7.out.below hW HO7.out.lt)
  have HSF : Hid (∀ c ∈ cs ++ [((r1, r2), X)], ∀ s ∈ c.2, s.size ≤ maxLen) := hid HAL.out.str
  have HQ5 := hid (cell_three_at (w := w7.drew) (b := w7.heap.size) (.int .i64 r1) (.int .i64 (r2 : Int)) (.slice xa xl xc) 96 rfl)
  go_region_held3 (fun w' => w'.cell? ⟨w.heap.size, 0, none⟩ = some (.slice ea n1 ec) ∧ w'.cell? ⟨w.heap.size, 1, none⟩ = some (.slice va n2 vc) ∧ w'.cell? ⟨w.heap.size, 2, none⟩ = some (.slice la n3 lc) ∧ w'.cell? ⟨w.heap.size + 1, 0, none⟩ = some (.int .i64 r1) ∧ w'.cell? ⟨w.heap.size + 1, 1, none⟩ = some (.int .i64 (r2 : Int)))
    (first | exact ⟨s0, s1, s2, s3, s4⟩ | exact ⟨t0, t1, t2, t3, t4⟩ | exact ⟨u0, u1, u2, u3, u4⟩ | exact ⟨v0, v1, v2, v3, v4⟩ | go_keep)
    (first
      | (go_at_call 68; go_must (((with_reducible refine (HST.out _ (by have h1 := HB7.out; repeat' (first | (with_reducible exact Below.refl _ _) | (with_reducible assumption) | (with_reducible refine below_drewN ?_) | (with_reducible refine Below.alloc ?_ ?_ _) | (with_reducible refine Below.drew ?_) | (with_reducible refine Below.setCell ?_ ?_ _) | (with_reducible refine Below.trans ?_ (Below.mono (by with_reducible assumption) ?_)) | go_size))).mono ?_); rintro e ws ⟨vs, rfl, hcv, hbs⟩; obtain ⟨sa, sc, L0, rfl, hL0⟩ := hcv.form HN.out; have HLB := hid (fun k (hk : (Value.slice sa n sc).ownBlock = some k) => (show w7.heap.size ≤ k from Nat.le_trans (by first | go_size | (simp; omega) | omega) (hL0.lt k hk).1)); have HL0 := hid (own_base (base' := 0) hL0 (Nat.zero_le _)); have HCV := hid (hcv.base (base' := 0) (Nat.zero_le _)); have HBS : Hid (Below w7.heap.size w7 ws) := hid (by have h1 := HB77.out; repeat' (first | (with_reducible exact Below.refl _ _) | (with_reducible assumption) | (with_reducible refine below_drewN ?_) | (with_reducible refine Below.alloc ?_ ?_ _) | (with_reducible refine Below.drew ?_) | (with_reducible refine Below.setCell ?_ ?_ _) | (with_reducible refine Below.trans ?_ (Below.mono (by with_reducible assumption) ?_)) | go_size)); have hxs := HXW.out _ HBS.out; have hrs := HRW.out _ HBS.out; have s0 := hxs.cell 0 rfl; have s1 := hxs.cell 1 rfl; have s2 := hxs.cell 2 rfl; have s3 := hrs.cell 0 rfl; have s4 := hrs.cell 1 rfl; have hzs := HBS.out.size; (try (have HQ6 := hid (fun j u hu => cell_later hbs (HQ5.out j u hu)))); clear hcv hL0 hbs hxs hrs)))
      | (go_at_call 49; go_must (((with_reducible refine (posting_indexed (cs ++ [((r1, r2), X)]) 0 p8 (n + 1) cap8 _ (by simp [HN.out]) (by omega) HCV8.out HAL.out.sets HAL.out.len HSF.out).mono ?_); rintro e w9 ⟨cs', ev', vv', lv', hp9, hu9, rfl, hrx9, hg9⟩; obtain ⟨ea9, ec9, rfl, -⟩ := hrx9.ents; obtain ⟨va9, vc9, rfl, -⟩ := hrx9.vals; obtain ⟨lf9, ⟨la9, lc9, rfl, -⟩, -⟩ := hrx9.lists; have hx9 := HX8.out.grown hg9 (fun e => by injection e with e; have := HP8.out; omega); have hr9 := HR8.out.grown hg9 (fun e => by injection e with e; have := HP8.out; omega); have ho9 := HO8.out.grown hg9 (fun e => by injection e with e; have := HP8.out; omega); have u0 := hx9.cell 0 rfl; have u1 := hx9.cell 1 rfl; have u2 := hx9.cell 2 rfl; have u3 := hr9.cell 0 rfl; have u4 := hr9.cell 1 rfl; have o0 := ho9.cell 0 rfl; have o1 := ho9.cell 1 rfl; have o2 := ho9.cell 2 rfl; have o3 := ho9.frozen 0; have o4 := ho9.frozen 1; have o5 := ho9.frozen 2; have hx10 := (((hx9.other (p := ⟨w.heap.size + 1 + 1, 0, none⟩) (by show w.heap.size + 1 + 1 ≠ w.heap.size; omega) (.slice ea9 (indexOf cs').ents.length ec9)).other (p := ⟨w.heap.size + 1 + 1, 1, none⟩) (by show w.heap.size + 1 + 1 ≠ w.heap.size; omega) (.slice va9 (indexOf cs').vals.length vc9)).other (p := ⟨w.heap.size + 1 + 1, 2, none⟩) (by show w.heap.size + 1 + 1 ≠ w.heap.size; omega) (.slice la9 (indexOf cs').lists.length lc9)); have hr10 := (((hr9.other (p := ⟨w.heap.size + 1 + 1, 0, none⟩) (by show w.heap.size + 1 + 1 ≠ w.heap.size + 1; omega) (.slice ea9 (indexOf cs').ents.length ec9)).other (p := ⟨w.heap.size + 1 + 1, 1, none⟩) (by show w.heap.size + 1 + 1 ≠ w.heap.size + 1; omega) (.slice va9 (indexOf cs').vals.length vc9)).other (p := ⟨w.heap.size + 1 + 1, 2, none⟩) (by show w.heap.size + 1 + 1 ≠ w.heap.size + 1; omega) (.slice la9 (indexOf cs').lists.length lc9)); have v0 := hx10.cell 0 rfl; have v1 := hx10.cell 1 rfl; have v2 := hx10.cell 2 rfl; have v3 := hr10.cell 0 rfl; have v4 := hr10.cell 1 rfl; have HO9 := hid ho9; have HB9 := hid (below_grown HB8.out hg9 (fun k hk => by injection hk with hk; have := HP8.out; omega)); have HZ9 := hid hg9.size; have HP9 := hid hp9; have HU9 := hid hu9; have HRX9 := hid hrx9; clear hx9 hr9 ho9 hg9 hp9 hu9 hrx9 hx10 hr10)))
      | ((refine step_append_form _ rfl (.tmp 35) (.tmp 39) 94 94 rfl 0 96 96 i0 (.agg #[.int .i64 0, .int .i64 0, .slice none 0 0]) 3 40 Tryz.underlying94 Tryz.underlying94 hi hz0 hz1 hz2 rfl (by decide) (.slice sa n sc) n L0 rfl (by first | exact HL0.out | exact HL0.out.alloc _) (some ⟨_, 0, none⟩) 1 1 [.int .i64 r1, .int .i64 (r2 : Int), .slice xa xl xc] rfl rfl (fun _ => ⟨_, rfl, (by first | exact cell_three_at _ _ _ _ (by simp) | exact HQ6.out)⟩) (by intro u hu; simp at hu; rcases hu with rfl | rfl | rfl <;> rfl) (by omega) (by unfold maxLen; omega) (by omega) (Nat.zero_le _) ?_); intro p8 cap8 w8 hown8 hg8 hat8 hlt8; have HP8 : Hid (w7.heap.size ≤ p8) := hid (by rcases hat8 with e | e <;> first | exact HLB.out _ e | (rw [e]; have q1 := HBS.out.size; first | go_size | (simp; omega) | omega)); have HCV8 := hid (CvSt.push (x := ((r1, r2), X)) (by first | exact HCV.out | exact HCV.out.alloc _) (by rw [HN.out]; first | exact HL0.out | exact HL0.out.alloc _) (by rw [HN.out]) hown8 hg8 hat8 (InK.more (HNEW.out _ (by have h0 := HB7.out; have h1 := HBS.out; repeat' (first | (with_reducible exact Below.refl _ _) | (with_reducible assumption) | (with_reducible refine below_drewN ?_) | (with_reducible refine Below.alloc ?_ ?_ _) | (with_reducible refine Below.drew ?_) | (with_reducible refine Below.setCell ?_ ?_ _) | (with_reducible refine Below.trans ?_ (Below.mono (by with_reducible assumption) ?_)) | go_size))) fun b hb => ⟨Nat.zero_le _, Nat.lt_of_lt_of_le hb (by have q0 := HB7.out.size; have q1 := HBS.out.size; first | go_size | (simp; omega) | omega), fun e => by have q0 := HLB.out _ e; have q1 : b < w.heap.size := hb; omega⟩)); have HB8 : Hid (Below w.heap.size w w8) := hid (below_grown (by have h0 := HB7.out; have h1 := HBS.out; repeat' (first | (with_reducible exact Below.refl _ _) | (with_reducible assumption) | (with_reducible refine below_drewN ?_) | (with_reducible refine Below.alloc ?_ ?_ _) | (with_reducible refine Below.drew ?_) | (with_reducible refine Below.setCell ?_ ?_ _) | (with_reducible refine Below.trans ?_ (Below.mono (by with_reducible assumption) ?_)) | go_size)) hg8 (fun k hk => by have := HLB.out k hk; omega)); have hx8 := (HXW.out _ (by have h0 := HB77.out; have h1 := HBS.out; repeat' (first | (with_reducible exact Below.refl _ _) | (with_reducible assumption) | (with_reducible refine below_drewN ?_) | (with_reducible refine Below.alloc ?_ ?_ _) | (with_reducible refine Below.drew ?_) | (with_reducible refine Below.setCell ?_ ?_ _) | (with_reducible refine Below.trans ?_ (Below.mono (by with_reducible assumption) ?_)) | go_size))).grown hg8 (fun e => by have := HLB.out _ e.symm; omega); have hr8 := (HRW.out _ (by have h0 := HB77.out; have h1 := HBS.out; repeat' (first | (with_reducible exact Below.refl _ _) | (with_reducible assumption) | (with_reducible refine below_drewN ?_) | (with_reducible refine Below.alloc ?_ ?_ _) | (with_reducible refine Below.drew ?_) | (with_reducible refine Below.setCell ?_ ?_ _) | (with_reducible refine Below.trans ?_ (Below.mono (by with_reducible assumption) ?_)) | go_size))).grown hg8 (fun e => by have := HLB.out _ e.symm; omega); have ho8 := (HOW.out _ (by have h0 := HB77.out; have h1 := HBS.out; repeat' (first | (with_reducible exact Below.refl _ _) | (with_reducible assumption) | (with_reducible refine below_drewN ?_) | (with_reducible refine Below.alloc ?_ ?_ _) | (with_reducible refine Below.drew ?_) | (with_reducible refine Below.setCell ?_ ?_ _) | (with_reducible refine Below.trans ?_ (Below.mono (by with_reducible assumption) ?_)) | go_size))).grown hg8 (fun e => by have := HLB.out _ e.symm; omega); have HX8 := hid hx8; have HR8 := hid hr8; have HO8 := hid ho8; have t0 := hx8.cell 0 rfl; have t1 := hx8.cell 1 rfl; have t2 := hx8.cell 2 rfl; have t3 := hr8.cell 0 rfl; have t4 := hr8.cell 1 rfl; clear hx8 hr8 ho8 hown8 hg8 hat8))
  all_goals
    have HPM := HP9.out
    have HDF9 := HDF.out.perm HPM
    have HUP9 := up_of HU9.out HDF9
    have HCO9 : Hid (CvsOk cs' ∧ StrOk cs') := hid ⟨(HAL.out.perm fun c hc => HPM.mem_iff.1 hc).cvs HUP9 (by rw [HPM.length_eq]; simp; have := HN.out; omega), fun c hc => HAL.out.str c (HPM.mem_iff.1 hc)⟩
    clear HPM HDF9 HUP9 o0 o1 o2 o3 o4 o5 x0 x1 x2 r0 r1' s0 s1 s2 s3 s4 t0 t1 t2 t3 t4 u0 u1 u2 u3 u4 v0 v1 v2 v3 v4
    have hq := ((HO9.out.set 0 (.slice ea9 (indexOf cs').ents.length ec9)).set 1 (.slice va9 (indexOf cs').vals.length vc9)).set 2 (.slice la9 (indexOf cs').lists.length lc9)
    have q0 := hq.cell 0 rfl
    have q1 := hq.cell 1 rfl
    have q2 := hq.cell 2 rfl
    clear hq
    go_wp2_with fail
    refine bodyPost_ret (v := okV (.agg #[.slice ea9 (indexOf cs').ents.length ec9, .slice va9 (indexOf cs').vals.length vc9, .slice la9 (indexOf cs').lists.length lc9])) (by simp [results, Tryz.results35, go_sem, q0, q1, q2]; done) rfl ⟨cs', _, _, _, HCO9.out.1, HCO9.out.2, HP9.out, rfl, ?_, ?_⟩
    · exact ix_stored HRX9.out HB9.out (by have := HB8.out.size; omega) (by have := HOW.out; have := HO8.out.lt; omega) _ _ _
    · exact ((HB9.out.setCell (by show w.heap.size ≤ w.heap.size + 1 + 1; omega) _).setCell (by show w.heap.size ≤ w.heap.size + 1 + 1; omega) _).setCell (by show w.heap.size ≤ w.heap.size + 1 + 1; omega) _

end Go.Proofs.YtabemneoobbnaaaGreatDoor
