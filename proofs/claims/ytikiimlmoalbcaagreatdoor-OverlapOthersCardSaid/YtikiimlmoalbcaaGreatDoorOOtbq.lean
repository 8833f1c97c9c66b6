/- Plain of OverlapOthers: a column without a value of the query changes no answer. Contracts of ref18.New, ref18.Add of a column that is not there. Plain: the certificate of the first hits is accepted. Plain and memory: the certificate of the first hits can be read and is accepted. Plain: the data of the sanity check of chapter 19. -/
import Derived.Test.YtikiimlmoalbcaaGreatDoorOOtam
import Derived.Test.YtikiimlmoalbcaaGreatDoorOOtbp
import Derived.Deep.RegionHeld3
import Derived.Test.YtikiimlmoalbcaaGreatDoorOOtbi
set_option linter.unusedVariables false
set_option linter.unusedSimpArgs false
namespace Go.Proofs.YtikiimlmoalbcaaGreatDoor
open Go.RowKit
theorem rlt_tri (a b : Int × Int) : rlt a b = true ∨ a = b ∨ rlt b a = true := by
 rw [rlt_iffB, rlt_iffB]
 obtain ⟨a1, a2⟩ := a
 obtain ⟨b1, b2⟩ := b
 simp only [Prod.mk.injEq]
 omega
theorem rlt_transB {a b c : Int × Int} (h1 : rlt a b = true) (h2 : rlt b c = true) : rlt a c = true := by
 rw [rlt_iffB] at *
 omega
def putK (cs : List Cv) (c : Cv) : Nat := (cs.takeWhile fun x => rlt (refZ x) (refZ c)).length
theorem putK_le (cs : List Cv) (c : Cv) : putK cs c ≤ cs.length := by
 unfold putK
 exact (List.takeWhile_sublist _).length_le
theorem takeWhile_at {α : Type} (p : α → Bool) : ∀ (l : List α) (d : α), (∀ i, i < (l.takeWhile p).length → p (l.getD i d) = true) ∧ ((l.takeWhile p).length < l.length → p (l.getD (l.takeWhile p).length d) = false)
 | [], d => ⟨fun i hi => absurd hi (by simp), fun h => absurd h (by simp)⟩
 | x :: l, d => by
  obtain ⟨h1, h2⟩ := takeWhile_at p l d
  rw [List.takeWhile_cons]
  by_cases hp : p x = true
  ·rw [if_pos hp]
   refine ⟨fun i hi => ?_, fun h => ?_⟩
   ·cases i with
    | zero => simpa using hp
    | succ i => simpa using h1 i (by simpa using hi)
   ·simpa using h2 (by simpa using h)
  ·rw [if_neg hp]
   refine ⟨fun i hi => absurd hi (by simp), fun _ => ?_⟩
   cases h : p x
   ·simpa using h
   ·exact absurd h hp
theorem putK_lt (cs : List Cv) (c : Cv) : ∀ i, i < putK cs c → rlt (refZ (cs.getD i Cv.z)) (refZ c) = true := (takeWhile_at (fun x : Cv => rlt (refZ x) (refZ c)) cs Cv.z).1
theorem putK_ge (cs : List Cv) (c : Cv) : putK cs c < cs.length → rlt (refZ (cs.getD (putK cs c) Cv.z)) (refZ c) = false := (takeWhile_at (fun x : Cv => rlt (refZ x) (refZ c)) cs Cv.z).2
theorem putK_up {cs : List Cv} (hk : CvsOk cs) {c : Cv} (hn : ∀ x ∈ cs, refZ x ≠ refZ c) : ∀ i, putK cs c ≤ i → i < cs.length → rlt (refZ c) (refZ (cs.getD i Cv.z)) = true := by
 intro i hi hl
 have h0 := putK_ge cs c (by omega)
 have hm := getD_mem (show putK cs c < cs.length by omega) Cv.z
 have h1 : rlt (refZ c) (refZ (cs.getD (putK cs c) Cv.z)) = true := by
  rcases rlt_tri (refZ (cs.getD (putK cs c) Cv.z)) (refZ c) with h | h | h
  ·rw [h0] at h; cases h
  ·exact absurd h (hn _ hm)
  ·exact h
 rcases Nat.lt_or_ge (putK cs c) i with h2 | h2
 ·exact rlt_transB h1 (cvs_up hk hl h2)
 ·obtain rfl : i = putK cs c := by omega
  exact h1
theorem put_ok {cs : List Cv} (hk : CvsOk cs) {c : Cv} (hn : ∀ x ∈ cs, refZ x ≠ refZ c) (h1 : 0 ≤ c.1.1 ∧ c.1.1 ≤ 1073741824) (h2 : Asc c.2) (h3 : c.2.length ≤ 4096) (h4 : cs.length + 1 ≤ 65536) : CvsOk (putL cs (putK cs c) c) := by
 have hm : ∀ x ∈ putL cs (putK cs c) c, x ∈ cs ∨ x = c := fun x hx => by
  unfold putL at hx
  rcases List.mem_append.1 hx with h | h
  ·exact .inl (List.mem_of_mem_take h)
  ·rcases List.mem_cons.1 h with h | h
   ·exact .inr h
   ·exact .inl (List.mem_of_mem_drop h)
 have hl := putK_lt cs c
 have hu := putK_up hk hn
 have hle := putK_le cs c
 generalize putK cs c = K at *
 refine ⟨?_, fun x hx => ?_, fun x hx => ?_, fun x hx => ?_, by rw [putL_len hle]; exact h4⟩
 ·unfold putL
  rw [List.pairwise_append, List.pairwise_cons]
  have hA : ∀ x ∈ cs.take K, rlt (refZ x) (refZ c) = true := fun x hx => by
   obtain ⟨i, hi, rfl⟩ := List.getElem_of_mem hx
   rw [List.length_take] at hi
   have h := hl i (by omega)
   rw [List.getElem_take, List.getElem_eq_getD Cv.z]
   exact h
  have hB : ∀ x ∈ cs.drop K, rlt (refZ c) (refZ x) = true := fun x hx => by
   obtain ⟨i, hi, rfl⟩ := List.getElem_of_mem hx
   rw [List.length_drop] at hi
   have h := hu (K + i) (by omega) (by omega)
   rw [List.getElem_drop, List.getElem_eq_getD Cv.z]
   exact h
  refine ⟨hk.up.sublist (List.take_sublist _ _), ⟨hB, hk.up.sublist (List.drop_sublist _ _)⟩, fun x hx y hy => ?_⟩
  rcases List.mem_cons.1 hy with rfl | hy
  ·exact hA x hx
  ·exact rlt_transB (hA x hx) (hB y hy)
 ·rcases hm x hx with h | rfl
  ·exact hk.ids x h
  ·exact h1
 ·rcases hm x hx with h | rfl
  ·exact hk.sets x h
  ·exact h2
 ·rcases hm x hx with h | rfl
  ·exact hk.len x h
  ·exact h3
def shP (K i : Nat) : Nat := if i < K then i else i + 1
theorem put_sh {cs : List Cv} {K : Nat} (hK : K ≤ cs.length) (c : Cv) (i : Nat) : (putL cs K c).getD (shP K i) Cv.z = cs.getD i Cv.z := by
 rw [putL_at hK]
 unfold shP
 by_cases h : i < K
 ·rw [if_pos h, if_pos h]
 ·rw [if_neg h, if_neg (by omega), if_neg (by omega), Nat.add_sub_cancel]
theorem put_com {cs : List Cv} {q : List ByteArray} {K : Nat} (hK : K ≤ cs.length) (c : Cv) (i : Nat) : comC (putL cs K c) q (shP K i) = comC cs q i := by
 unfold comC
 rw [put_sh hK]
theorem put_hits {cs : List Cv} {q : List ByteArray} {K : Nat} {c : Cv} {S : List Nat} (hK : K ≤ cs.length) (hc : ∀ v ∈ q, v ∉ c.2) (hS : HitsOk den1 cs q S) : HitsOk den1 (putL cs K c) q (S.map (shP K)) := by
 refine ⟨?_, fun d => ?_⟩
 ·rw [List.pairwise_map]
  refine hS.1.imp fun {a b} h => ?_
  unfold befH den1 at *
  rw [put_com hK, put_com hK]
  rcases h with h | ⟨h1, h2⟩
  ·exact .inl h
  ·refine .inr ⟨h1, ?_⟩
   unfold shP
   split <;> split <;> omega
 ·rw [List.mem_map, putL_len hK]
  constructor
  ·rintro ⟨i, hi, rfl⟩
   have h := (hS.2 i).1 hi
   rw [put_com hK]
   refine ⟨?_, h.2⟩
   unfold shP
   split <;> omega
  ·rintro ⟨h1, h2⟩
   have key : ∀ i, shP K i = d → i < cs.length → ∃ a, a ∈ S ∧ shP K a = d := fun i e hi => by
    refine ⟨i, (hS.2 i).2 ⟨hi, ?_⟩, e⟩
    rw [← put_com hK c i, e]
    exact h2
   rcases Nat.lt_trichotomy d K with h | h | h
   ·exact key d (by unfold shP; rw [if_pos h]) (by omega)
   ·subst h
    have e : (putL cs d c).getD d Cv.z = c := by rw [putL_at hK, if_neg (by omega), if_pos rfl]
    unfold comC at h2
    rw [e, List.filter_eq_nil_iff.2 fun v hv h3 => hc v hv ((hasL_iff _ _).1 h3)] at h2
    cases h2
   ·exact key (d - 1) (by unfold shP; rw [if_neg (by omega)]; omega) (by omega)
theorem put_keys {cs : List Cv} {q : List ByteArray} {K : Nat} (hK : K ≤ cs.length) (c : Cv) (S : List Nat) (k : Nat) :
  ((S.map (shP K)).take k).map (fun i => (((putL cs K c).getD i Cv.z).1.1, (((putL cs K c).getD i Cv.z).1.2 : Int), comC (putL cs K c) q i, 1)) = (S.take k).map fun i => ((cs.getD i Cv.z).1.1, ((cs.getD i Cv.z).1.2 : Int), comC cs q i, 1) := by
 rw [← List.map_take, List.map_map]
 refine List.map_congr_left fun i _ => ?_
 simp only [Function.comp]
 rw [put_sh hK, put_com hK]
end Go.Proofs.YtikiimlmoalbcaaGreatDoor

namespace Go.Proofs.YtikiimlmoalbcaaGreatDoor
open Go.RowKit
theorem cv_form {w : World} {base : Nat} {e : TypeId} {v : Value} {cs : List Cv} (h : CvSt w base e v cs) : v = .slice none 0 0 ∨ ∃ b c, v = .slice (some ⟨b, 0, none⟩) cs.length c := by
 obtain ⟨L, hl, h1 | ⟨g, cap, cur, h1, -⟩⟩ := h.owns
 ·exact .inl h1.1
 ·exact .inr ⟨g, cap, h1⟩
def AddP (w : World) (cs : List Cv) (e : Ending) (w' : World) : Prop :=
  ∃ ev vv lv, e = .returned (.tuple #[.agg #[ev, vv, lv], .int .i64 0]) ∧ RdIx w' (fun k => w.heap.size ≤ k ∧ k < w'.heap.size) ev vv lv (indexOf cs) ∧ Below w.heap.size w w'
set_option maxRecDepth 100000 in
set_option maxHeartbeats 4000000 in
theorem ref18_Add (cs : List Cv) (hk : CvsOk cs) (ev vv lv u : Value) (r1 : Int) (r2 : Nat) (xs : List ByteArray) (w : World) (hx : RdIx w (· < w.heap.size) ev vv lv (indexOf cs)) (hu : InS w (· < w.heap.size) u xs) (ha : Asc xs) (hl : xs.length ≤ 4096) (h1 : 0 ≤ r1 ∧ r1 ≤ 1073741824) (h2 : r2 ≤ 1073741824)
    (hn : ∀ x ∈ cs, refZ x ≠ (r1, (r2 : Int))) (hm : cs.length + 1 ≤ 65536) :
    Calls Tryz.prog 27 #[.agg #[ev, vv, lv], .agg #[.int .i64 r1, .int .i64 (r2 : Int)], u] w (AddP w (putL cs (putK cs ((r1, r2), xs)) ((r1, r2), xs))) := by
  have hok2 : CvsOk (putL cs (putK cs ((r1, r2), xs)) ((r1, r2), xs)) := put_ok hk hn h1 ha hl hm
  have HVA := hid (fun W (hW : Below w.heap.size w W) => ref18_Valid cs hk ev vv lv w.heap.size W (hx.keep fun p hp => hW.cell (p := p) hp) hW.size)
  have HIS := hid (fun W (hW : Below w.heap.size w W) => ref_IsSet u xs w.heap.size W (Rd.below (InS.rds hu fun b h => h) hW (Nat.le_refl _)))
  rw [Asc.isSet ha] at HIS
  have HCO := hid (fun W (hW : Below w.heap.size w W) => ref18_columns cs hk ev vv lv w.heap.size W (hx.keep fun p hp => hW.cell (p := p) hp) hW.size)
  have HPU := hid (fun W W2 v b e (hW : Below w.heap.size w W) (hst : CvSt W b e v cs) (hb : 0 < b) (hW2 : Below W.heap.size W W2) => (by
    have h0 := hst.later hW2 hb
    have h5 := hW.trans (hW2.mono hW.size)
    exact ref18_put cs v u ((r1, r2), xs) (putK cs ((r1, r2), xs)) W2 (h0.read.more fun k hk => hk.2) ((InK.keep hu fun p hp => h5.cell (p := p) hp).more fun k hk => Nat.lt_of_lt_of_le hk h5.size) (by omega) (cv_form h0) (putK_le _ _) (putK_lt _ _) (fun h => ⟨putK_ge _ _ h, hn _ (getD_mem h Cv.z)⟩) :
    Calls Tryz.prog 73 #[v, .agg #[.int .i64 r1, .int .i64 (r2 : Int), u]] W2 (fun e w' => ∃ v', e = .returned (.tuple #[v', .bool true]) ∧ RdCv w' (· < w'.heap.size) v' (putL cs (putK cs ((r1, r2), xs)) ((r1, r2), xs)) ∧ Below W2.heap.size W2 w')))
  have HIX := hid (fun W v (h : RdCv W (· < W.heap.size) v (putL cs (putK cs ((r1, r2), xs)) ((r1, r2), xs))) => ref_index v _ W.heap.size W h (Nat.le_refl _) hok2.many hok2.len)
  obtain ⟨ea, ec, rfl, -⟩ := id hx.ents
  obtain ⟨va, vc, rfl, -⟩ := id hx.vals
  obtain ⟨lf, ⟨la, lc, rfl, -⟩, -⟩ := id hx.lists
  obtain ⟨ua, uc, rfl, -⟩ := id hu
  generalize putL cs (putK cs ((r1, r2), xs)) ((r1, r2), xs) = cs2 at *
  generalize (indexOf cs).ents.length = n1 at *
  generalize (indexOf cs).vals.length = n2 at *
  generalize (indexOf cs).lists.length = n3 at *
  generalize xs.length = ul at *
  obtain ⟨h1a, h1b⟩ := h1
  clear hx hu ha hk hn hok2
  have hX0 := ((BoxN.new w #[.slice ea n1 ec, .slice va n2 vc, .slice la n3 lc] 30).alloc (.cells #[.int .i64 r1, .int .i64 (r2 : Int)] 51)).alloc (.cells #[.slice none 0 0, .slice none 0 0, .slice none 0 0] 30)
  have hX1 := (BoxN.new (w.alloc (.cells #[.slice ea n1 ec, .slice va n2 vc, .slice la n3 lc] 30)) #[.int .i64 r1, .int .i64 (r2 : Int)] 51).alloc (.cells #[.slice none 0 0, .slice none 0 0, .slice none 0 0] 30)
  have hX2 := BoxN.new ((w.alloc (.cells #[.slice ea n1 ec, .slice va n2 vc, .slice la n3 lc] 30)).alloc (.cells #[.int .i64 r1, .int .i64 (r2 : Int)] 51)) #[.slice none 0 0, .slice none 0 0, .slice none 0 0] 30
  rw [World.size_alloc] at hX1
  rw [World.size_alloc, World.size_alloc] at hX2
  have HB0 := hid ((((Below.refl w.heap.size w).alloc (Nat.le_refl _) (.cells #[.slice ea n1 ec, .slice va n2 vc, .slice la n3 lc] 30)).alloc (by rw [World.size_alloc]; omega) (.cells #[.int .i64 r1, .int .i64 (r2 : Int)] 51)).alloc (by rw [World.size_alloc, World.size_alloc]; omega) (.cells #[.slice none 0 0, .slice none 0 0, .slice none 0 0] 30))
  go_enter Tryz.func27, Tryz.ntmps27
  go_upto_region 1 with fail
  generalize ((w.alloc (.cells #[.slice ea n1 ec, .slice va n2 vc, .slice la n3 lc] 30)).alloc (.cells #[.int .i64 r1, .int .i64 (r2 : Int)] 51)).alloc (.cells #[.slice none 0 0, .slice none 0 0, .slice none 0 0] 30) = W0 at *
  have HX0 := hid hX0
  have HX1 := hid hX1
  have HX2 := hid hX2
  have x0 := hX0.cell 0 rfl
  have x1 := hX0.cell 1 rfl
  have x2 := hX0.cell 2 rfl
  clear hX0 hX1 hX2
  go_wp2_with fail
  with_reducible refine (HVA.out _ HB0.out).mono ?_
  rintro e w1 ⟨rfl, hb1⟩
  have HB1 := hid (HB0.out.trans (hb1.mono HB0.out.size))
  have HX0 := hid (HX0.out.below hb1 HX0.out.lt)
  have HX1 := hid (HX1.out.below hb1 HX1.out.lt)
  have HX2 := hid (HX2.out.below hb1 HX2.out.lt)
  clear hb1 x0 x1 x2
  go_wp2_with fail
  with_reducible refine (HIS.out _ HB1.out).mono ?_
  rintro e w2 hq2
  obtain ⟨rfl, hb2⟩ := hq2.ret
  have HB2 := hid (HB1.out.trans (hb2.mono HB1.out.size))
  have HX0 := hid (HX0.out.below hb2 HX0.out.lt)
  have HX1 := hid (HX1.out.below hb2 HX1.out.lt)
  have HX2 := hid (HX2.out.below hb2 HX2.out.lt)
  have y0 := HX1.out.cell 0 rfl
  have y1 := HX1.out.cell 1 rfl
  have hs1 : decide (r1 < 0) = false := decide_eq_false (by omega)
  have hs2 : decide (1073741824 < r1) = false := decide_eq_false (by omega)
  have hs3 : decide ((r2 : Int) < 0) = false := decide_eq_false (by omega)
  have hs4 : decide (4096 < ul) = false := decide_eq_false (by omega)
  clear hb2 hq2
  go_upto_region 7 with fail
  clear y0 y1
  have HG := hid (fun W (hW : Below w2.heap.size w2 W) => (by
    have h1 := HX0.out.below hW HX0.out.lt
    have h2 := HX1.out.below hW HX1.out.lt
    exact ⟨h1.cell 0 rfl, h1.cell 1 rfl, h1.cell 2 rfl, h2.cell 0 rfl, h2.cell 1 rfl⟩ : W.cell? ⟨w.heap.size, 0, none⟩ = some (.slice ea n1 ec) ∧ W.cell? ⟨w.heap.size, 1, none⟩ = some (.slice va n2 vc) ∧ W.cell? ⟨w.heap.size, 2, none⟩ = some (.slice la n3 lc) ∧ W.cell? ⟨w.heap.size + 1, 0, none⟩ = some (.int .i64 r1) ∧ W.cell? ⟨w.heap.size + 1, 1, none⟩ = some (.int .i64 (r2 : Int))))
  have HC := hid ((Below.refl w2.heap.size w2).drew)
  go_region_held3 (fun W => W.cell? ⟨w.heap.size, 0, none⟩ = some (.slice ea n1 ec) ∧ W.cell? ⟨w.heap.size, 1, none⟩ = some (.slice va n2 vc) ∧ W.cell? ⟨w.heap.size, 2, none⟩ = some (.slice la n3 lc) ∧ W.cell? ⟨w.heap.size + 1, 0, none⟩ = some (.int .i64 r1) ∧ W.cell? ⟨w.heap.size + 1, 1, none⟩ = some (.int .i64 (r2 : Int)))
    (first | exact HG.out _ HC.out | go_keep)
    (first
      | (go_at_call 74; go_must ((with_reducible refine (HCO.out _ (Fr.belowT HB2.out HC.out)).mono ?_); rintro e w5 ⟨v5, rfl, hst5, hb5⟩; have HST5 := hid hst5; have HB5 := hid (Fr.belowT (Fr.belowT HB2.out HC.out) hb5); have HC := hid (Fr.belowT HC.out hb5); clear hst5 hb5))
      | (go_at_call 73; go_must ((with_reducible refine (HPU.out _ _ v5 _ _ HB5.out HST5.out (Nat.succ_pos _) (Below.refl _ _)).mono ?_); rintro e w6 ⟨v6, rfl, hcv6, hb6⟩; have HCV6 := hid hcv6; have HC := hid (Fr.belowT HC.out hb6); clear hcv6 hb6)))
  all_goals
    have HB6 := hid (Fr.belowT HB2.out HC.out)
    have HX6 := hid (HX2.out.below HC.out HX2.out.lt)
    go_wp2_with fail
    with_reducible refine (HIX.out _ v6 HCV6.out).mono ?_
    rintro e w7 ⟨ev7, vv7, lv7, rfl, hrx7, hb7⟩
    obtain ⟨ea7, ec7, rfl, -⟩ := id hrx7.ents
    obtain ⟨va7, vc7, rfl, -⟩ := id hrx7.vals
    obtain ⟨lf7, ⟨la7, lc7, rfl, -⟩, -⟩ := id hrx7.lists
    generalize (indexOf cs2).ents.length = m1 at *
    generalize (indexOf cs2).vals.length = m2 at *
    generalize (indexOf cs2).lists.length = m3 at *
    have hX7 := HX6.out.below hb7 HX6.out.lt
    have HX7 := hid hX7
    have HB7 := hid (Fr.belowT HB6.out hb7)
    have hz6 := HX6.out.lt
    have hz26 := HB6.out.size
    have HZ : Hid (BoxN (((w7.setCell ⟨w.heap.size + 2, 0, none⟩ (.slice ea7 m1 ec7)).setCell ⟨w.heap.size + 2, 1, none⟩ (.slice va7 m2 vc7)).setCell ⟨w.heap.size + 2, 2, none⟩ (.slice la7 m3 lc7)) (w.heap.size + 2) 30 #[(.slice ea7 m1 ec7), (.slice va7 m2 vc7), (.slice la7 m3 lc7)]) := hid (((hX7.set 0 (.slice ea7 m1 ec7)).set 1 (.slice va7 m2 vc7)).set 2 (.slice la7 m3 lc7))
    have HRES : Hid (AddP w cs2 (.returned (.tuple #[.agg #[(.slice ea7 m1 ec7), (.slice va7 m2 vc7), (.slice la7 m3 lc7)], .int .i64 0])) (((w7.setCell ⟨w.heap.size + 2, 0, none⟩ (.slice ea7 m1 ec7)).setCell ⟨w.heap.size + 2, 1, none⟩ (.slice va7 m2 vc7)).setCell ⟨w.heap.size + 2, 2, none⟩ (.slice la7 m3 lc7))) := hid
      ⟨(.slice ea7 m1 ec7), (.slice va7 m2 vc7), (.slice la7 m3 lc7), rfl, (hrx7.keep fun p hp => World.cell?_of_block (by
        have h5 : w6.heap.size ≤ p.block := hp.1
        exact (Below.heap_setCell _ _ _ _ (by show p.block ≠ w.heap.size + 2; omega)).trans ((Below.heap_setCell _ _ _ _ (by show p.block ≠ w.heap.size + 2; omega)).trans (Below.heap_setCell _ _ _ _ (by show p.block ≠ w.heap.size + 2; omega))))).more fun k hk => (by
        have h5 : w6.heap.size ≤ k ∧ k < w7.heap.size := hk
        exact ⟨by omega, by simpa using h5.2⟩),
       ((HB7.out.setCell (p := ⟨w.heap.size + 2, 0, none⟩) (by show w.heap.size ≤ w.heap.size + 2; omega) _).setCell (p := ⟨w.heap.size + 2, 1, none⟩) (by show w.heap.size ≤ w.heap.size + 2; omega) _).setCell (p := ⟨w.heap.size + 2, 2, none⟩) (by show w.heap.size ≤ w.heap.size + 2; omega) _⟩
    have z0 := hX7.cell 0 rfl
    have z1 := hX7.cell 1 rfl
    have z2 := hX7.cell 2 rfl
    have f0 := hX7.frozen 0
    have f1 := hX7.frozen 1
    have f2 := hX7.frozen 2
    clear hX7 hrx7 hb7
    go_wp2
    have y0 := HZ.out.cell 0 rfl
    have y1 := HZ.out.cell 1 rfl
    have y2 := HZ.out.cell 2 rfl
    refine bodyPost_ret (v := .tuple #[.agg #[(.slice ea7 m1 ec7), (.slice va7 m2 vc7), (.slice la7 m3 lc7)], .int .i64 0]) (by simp [results, Tryz.results27, go_sem, y0, y1, y2]) rfl HRES.out
theorem ref18_New (w : World) : Calls Tryz.prog 64 #[] w (Ret w (.agg #[.slice none 0 0, .slice none 0 0, .slice none 0 0])) := by
 have HX := hid (BoxN.new w #[.slice none 0 0, .slice none 0 0, .slice none 0 0] 30)
 have HB := hid ((Below.refl w.heap.size w).alloc (Nat.le_refl _) (.cells #[.slice none 0 0, .slice none 0 0, .slice none 0 0] 30))
 go_enter Tryz.func64, Tryz.ntmps64
 go_wp2
 have y0 := HX.out.cell 0 rfl
 have y1 := HX.out.cell 1 rfl
 have y2 := HX.out.cell 2 rfl
 refine bodyPost_ret (v := .agg #[.slice none 0 0, .slice none 0 0, .slice none 0 0]) (by simp [results, Tryz.results64, go_sem, y0, y1, y2]) rfl ⟨rfl, HB.out⟩
end Go.Proofs.YtikiimlmoalbcaaGreatDoor

namespace Go.Proofs.YtikiimlmoalbcaaGreatDoor
open Go.RowKit
theorem readB_vs {cs : List Cv} {pl : List Nat} {r : Nat} (v : ByteArray) : readB cs (sortN (pl.take r)) v = hasL ((vsOf cs pl).take r) v := by
 unfold readB vsOf
 rw [Bool.eq_iff_iff, List.any_eq_true, hasL_iff, ← List.map_take, List.mem_map]
 constructor
 ·rintro ⟨i, hi, e⟩
  exact ⟨i, (sortN_perm _).mem_iff.1 hi, of_decide_eq_true e⟩
 ·rintro ⟨i, hi, e⟩
  exact ⟨i, (sortN_perm _).mem_iff.2 hi, decide_eq_true e⟩
theorem vs_nodup {cs : List Cv} {q vs : List ByteArray} (hv : ReadOk cs q vs) (hq : q.Nodup) : vs.Nodup := hv.nodup_iff.2 (hq.sublist List.filter_sublist)
theorem take_drop_not {vs : List ByteArray} (hn : vs.Nodup) (r : Nat) : ∀ v ∈ vs.drop r, hasL (vs.take r) v = false := fun v hv => by
 cases h : hasL (vs.take r) v
 ·rfl
 ·have h1 := (hasL_iff _ _).1 h
  rw [← List.take_append_drop r vs] at hn
  exact absurd rfl ((List.pairwise_append.1 hn).2.2 v h1 v hv)
theorem low_vs {cs : List Cv} {q : List ByteArray} {pl : List Nat} {r : Nat} (hv : ReadOk cs q (vsOf cs pl)) (hq : q.Nodup) (c : Nat) : lowB cs q (sortN (pl.take r)) c = lowC cs (vsOf cs pl) r c := by
 have hn := vs_nodup hv hq
 unfold lowB lowC
 have e1 : (q.filter fun v => hasL (setOfL (allOf cs)) v && (readB cs (sortN (pl.take r)) v && hasL (cs.getD c Cv.z).2 v)) = (q.filter (hasL (setOfL (allOf cs)))).filter fun v => hasL ((vsOf cs pl).take r) v && hasL (cs.getD c Cv.z).2 v := by
  rw [List.filter_filter]
  refine List.filter_congr fun v _ => ?_
  rw [readB_vs, Bool.and_comm]
 rw [e1, ← ((show (vsOf cs pl).Perm _ from hv).filter _).length_eq]
 generalize vsOf cs pl = vs at *
 have e2 : (vs.filter fun v => hasL (vs.take r) v && hasL (cs.getD c Cv.z).2 v) = (vs.take r).filter fun v => hasL (cs.getD c Cv.z).2 v := by
  conv => lhs; arg 2; rw [← List.take_append_drop r vs]
  rw [List.filter_append]
  have e3 : ((vs.drop r).filter fun v => hasL (vs.take r) v && hasL (cs.getD c Cv.z).2 v) = [] := List.filter_eq_nil_iff.2 fun v hm => by rw [take_drop_not hn r v hm]; simp
  rw [e3, List.append_nil]
  exact List.filter_congr fun v hm => by rw [(hasL_iff _ _).2 hm, Bool.true_and]
 rw [e2]
theorem open_vs {cs : List Cv} {q : List ByteArray} {pl : List Nat} {r : Nat} (hv : ReadOk cs q (vsOf cs pl)) (hq : q.Nodup) : openB cs q (sortN (pl.take r)) = (vsOf cs pl).length - r := by
 have hn := vs_nodup hv hq
 unfold openB
 have e1 : (q.filter fun v => hasL (setOfL (allOf cs)) v && !readB cs (sortN (pl.take r)) v) = (q.filter (hasL (setOfL (allOf cs)))).filter fun v => !hasL ((vsOf cs pl).take r) v := by
  rw [List.filter_filter]
  refine List.filter_congr fun v _ => ?_
  rw [readB_vs, Bool.and_comm]
 rw [e1, ← ((show (vsOf cs pl).Perm _ from hv).filter _).length_eq]
 generalize vsOf cs pl = vs at *
 have e2 : (vs.filter fun v => !hasL (vs.take r) v) = vs.drop r := by
  conv => lhs; arg 2; rw [← List.take_append_drop r vs]
  rw [List.filter_append]
  have e3 : ((vs.take r).filter fun v => !hasL (vs.take r) v) = [] := List.filter_eq_nil_iff.2 fun v hm => by rw [(hasL_iff _ _).2 hm]; simp
  rw [e3, List.nil_append]
  exact List.filter_eq_self.2 fun v hm => by rw [take_drop_not hn r v hm]; rfl
 rw [e2, List.length_drop]
theorem bnd_vs {cs : List Cv} {q : List ByteArray} {pl K : List Nat} {r : Nat} (hv : ReadOk cs q (vsOf cs pl)) (hq : q.Nodup) (c : Nat) : bndB cs q (sortN (pl.take r)) K c = if c ∈ K then (comC cs q c, comC cs q c) else (lowC cs (vsOf cs pl) r c, bestC cs (vsOf cs pl) r c) := by
 unfold bndB bestC
 rw [low_vs hv hq, open_vs hv hq]
theorem cfM_lt {m1 m2 : Mh} {n1 d1 n2 d2 : Nat} (h1 : 0 < n1) (h2 : 0 < n2) (p1 : m1.p = n1 / Nat.gcd n1 d1) (q1 : m1.q = d1 / Nat.gcd n1 d1) (p2 : m2.p = n2 / Nat.gcd n2 d2) (q2 : m2.q = d2 / Nat.gcd n2 d2)
  (h : n2 * d1 < n1 * d2 ∨ (n2 * d1 = n1 * d2 ∧ rlt (m1.ta, m1.ca) (m2.ta, m2.ca) = true)) : cfM m1 m2 < 0 := by
 have a1 := red_le (n := n1) (d := d1) (m := n2) (e := d2) h1 h2
 have a2 := red_le (n := n2) (d := d2) (m := n1) (e := d1) h2 h1
 rw [← p1, ← q1, ← p2, ← q2] at a1 a2
 unfold cfM orY
 rcases h with h | ⟨h, hr⟩
 ·have e : Fr.sgn (m2.p * m1.q) (m1.p * m2.q) = -1 := Fr.sgn_lt (by omega)
  rw [e, if_pos (by decide)]
  decide
 ·have e : Fr.sgn (m2.p * m1.q) (m1.p * m2.q) = 0 := Fr.sgn_zero.2 (by omega)
  rw [e, if_neg (by decide)]
  rw [rlt_iffB] at hr
  simp only at hr
  rcases hr with hr | ⟨hr1, hr2⟩
  ·rw [Fr.isgn_lt hr, if_pos (by decide)]
   decide
  ·rw [Fr.isgn_eq hr1, if_neg (by decide), Fr.isgn_lt hr2]
   decide
theorem top_checks {den : Nat → Nat → Nat} {cs : List Cv} {q vs : List ByteArray} {S K : List Nat} {r k : Nat} {ds : List Mq} {kn : Nat → Nat × Nat} (hs : Sco q.length den) (hk : CvsOk cs) (hq : q.Nodup) (hv : ReadOk cs q vs) (hr : r ≤ vs.length) (hS : HitsOk den cs q S)
  (hof : HitsOf den cs (comC cs q) ds) (hcol : ds.map (colQ cs) = S.take k) (hkn : ∀ c, kn c = if c ∈ K then (comC cs q c, comC cs q c) else (lowC cs vs r c, bestC cs vs r c)) (hk0 : 0 < k)
  (hgood : GoodT den cs vs k r K ∨ r = vs.length) : folTopB cs den kn k ds = true := by
 have hlen : ds.length = min k S.length := by rw [← List.length_map (f := colQ cs), hcol, List.length_take]
 have hle := fun c => low_le_com (cs := cs) hv r c
 have hbe := fun c => com_le_best (cs := cs) hv hq r c
 have hbl := fun c => best_le (cs := cs) hv r c hr
 let P : Nat → Bool := fun c => decide (c ∈ K) || decide (bestC cs vs r c = lowC cs vs r c)
 have hP : ∀ c, P c = true → kn c = (comC cs q c, comC cs q c) := fun c h => by
  rw [hkn]
  by_cases hc : c ∈ K
  ·rw [if_pos hc]
  ·rw [if_neg hc]
   simp only [P, decide_eq_false hc, Bool.false_or, decide_eq_true_iff] at h
   have h1 := hle c
   have h2 := hbe c
   rw [show lowC cs vs r c = comC cs q c by omega, show bestC cs vs r c = comC cs q c by omega]
 have hPn : ∀ c, P c = false → c ∉ K ∧ bestC cs vs r c ≠ lowC cs vs r c := fun c h => by
  simp only [P, Bool.or_eq_false_iff, decide_eq_false_iff_not] at h
  exact h
 have hall : r = vs.length → ∀ c, P c = true := fun e c => by
  have h1 := low_all (cs := cs) hv hq c
  rw [← e] at h1
  simp only [P, Bool.or_eq_true, decide_eq_true_iff]
  right
  omega
 have hcert : ∀ c ∈ S.take k, P c = true := fun c hc => by
  rcases hgood with ⟨SS, g1, g2, g3, g4⟩ | e
  ·have h1 := top_early hs hv hq hS hr g1 g2 hk0 g3 P fun c h => g4 ▸ (hPn c h).1
   rw [← h1] at hc
   exact (List.mem_filter.1 (List.mem_of_mem_take hc)).2
  ·exact hall e c
 have hat : ∀ i, i < ds.length → ∃ c, (S.take k)[i]? = some c ∧ c ∈ S ∧ IsHit den cs (comC cs q) c (ds.getD i default).1 ∧ placeM cs (ds.getD i default).1 = (c : Int) ∧ P c = true := fun i hi => by
  have hm := getD_mem hi default
  have h1 := hof _ hm
  have h2 : (ds.map (colQ cs))[i]? = some (colQ cs (ds.getD i default)) := by simp [List.getD, hi]
  rw [hcol] at h2
  have h3 := List.mem_of_getElem? h2
  refine ⟨_, h2, List.mem_of_mem_take h3, h1, place_at hk h1.lt ?_, hcert _ h3⟩
  unfold refZ
  rw [h1.ta, h1.ca]
 have hpos : ∀ c ∈ S, c < cs.length ∧ 0 < comC cs q c := fun c hc => (hS.2 c).1 hc
 have hlast : ∀ (s : Nat) (m : Mh), s ∈ S → IsHit den cs (comC cs q) s m → ∀ c n, c < cs.length → 0 < n →
   (n * den (comC cs q s) (sizeC cs s) < comC cs q s * den n (sizeC cs c) ∨ (n * den (comC cs q s) (sizeC cs s) = comC cs q s * den n (sizeC cs c) ∧ s < c)) →
   cfM m ⟨(cs.getD c Cv.z).1.1, ((cs.getD c Cv.z).1.2 : Int), (none, 0), (none, 0), n / Nat.gcd n (den n (sizeC cs c)), den n (sizeC cs c) / Nat.gcd n (den n (sizeC cs c))⟩ < 0 := by
  intro s m hs1 hm c n hc hn h
  refine cfM_lt (hpos s hs1).2 hn hm.p hm.q rfl rfl ?_
  rcases h with h | ⟨h, hsc⟩
  ·exact .inl h
  ·refine .inr ⟨h, ?_⟩
   have h1 := cvs_up hk hc hsc
   unfold refZ at h1
   rw [hm.ta, hm.ca]
   exact h1
 unfold folTopB followB
 rw [Bool.and_eq_true, Bool.and_eq_true, decide_eq_true_iff]
 refine ⟨by omega, all_yes fun i hi => ?_, all_yes fun c hc => ?_⟩
 ·obtain ⟨c, hc1, hc2, hh, hpl, hPc⟩ := hat i hi
  have h1 := hP c hPc
  have h2 := hpos c hc2
  unfold hitOkB
  simp only [Bool.and_eq_true, Bool.or_eq_true, decide_eq_true_iff]
  rw [hpl, Int.toNat_natCast, h1]
  refine ⟨by omega, ?_, h2.2, rfl, ?_⟩
  ·by_cases h0 : i = 0
   ·exact .inl h0
   ·right
    obtain ⟨d, hd1, hd2, hh', hpl', -⟩ := hat (i - 1) (by omega)
    have h3 := hpos d hd2
    have h4 : befH den (sizeC cs) (comC cs q) d c := by
     have h5 := hS.1.sublist (List.take_sublist k S)
     obtain ⟨b1, e1⟩ := List.getElem?_eq_some_iff.1 hc1
     obtain ⟨b2, e2⟩ := List.getElem?_eq_some_iff.1 hd1
     have h6 := List.pairwise_iff_getElem.1 h5 (i - 1) i b2 b1 (by omega)
     rw [e1, e2] at h6
     exact h6
    refine cfM_lt h3.2 h2.2 hh'.p hh'.q hh.p hh.q ?_
    unfold befH at h4
    rcases h4 with h4 | ⟨h4, h5⟩
    ·exact .inl h4
    ·refine .inr ⟨h4, ?_⟩
     have h6 := cvs_up hk h2.1 h5
     unfold refZ at h6
     rw [hh'.ta, hh'.ca, hh.ta, hh.ca]
     exact h6
  ·simp only
   rw [hh.p, hh.q]
   exact Fr.sgn_zero.2 rfl
 ·unfold colOkB
  by_cases h0 : 0 < (kn c).2
  ·rw [decide_eq_true h0, Bool.not_true, Bool.false_or, Bool.or_eq_true]
   by_cases hin : c ∈ S.take k
   ·left
    rw [List.contains_iff_mem]
    rw [← hcol] at hin
    obtain ⟨x, hx, e⟩ := List.mem_map.1 hin
    have h1 := hof x hx
    refine List.mem_map.2 ⟨x, hx, ?_⟩
    rw [e] at h1
    refine place_at hk h1.lt ?_
    unfold refZ
    rw [h1.ta, h1.ca]
   ·right
    have main : k ≤ S.length ∧ ∃ s, (S.take k)[k - 1]? = some s ∧ ((kn c).2 * den (comC cs q s) (sizeC cs s) < comC cs q s * den (kn c).2 (sizeC cs c) ∨ ((kn c).2 * den (comC cs q s) (sizeC cs s) = comC cs q s * den (kn c).2 (sizeC cs c) ∧ s < c)) := by
     by_cases hPc : P c = true
     ·have h1 := hP c hPc
      rw [h1] at h0 ⊢
      simp only at h0 ⊢
      have h2 := (hS.2 c).2 ⟨hc, h0⟩
      obtain ⟨i, hi, e⟩ := List.getElem_of_mem h2
      have hik : k ≤ i := by
       rcases Nat.lt_or_ge i k with h3 | h3
       ·refine absurd (List.mem_of_getElem? (i := i) ?_) hin
        rw [List.getElem?_take, if_pos h3, List.getElem?_eq_getElem hi, e]
       ·exact h3
      refine ⟨by omega, S[k - 1], ?_, ?_⟩
      ·rw [List.getElem?_take, if_pos (by omega), List.getElem?_eq_getElem (by omega)]
      ·have h3 := List.pairwise_iff_getElem.1 hS.1 (k - 1) i (by omega) hi (by omega)
       rw [e] at h3
       exact h3
     ·have hPf : P c = false := by cases h : P c; rfl; exact absurd h hPc
      obtain ⟨hcK, hbn⟩ := hPn c hPf
      rcases hgood with ⟨SS, g1, g2, g3, g4⟩ | e
      ·have h1 := hkn c
       rw [if_neg hcK] at h1
       rw [h1] at h0 ⊢
       simp only at h0 ⊢
       have hkl : k - 1 < SS.length := by omega
       have e0 : SS.getD (k - 1) 0 = SS[k - 1] := by simp [List.getD, hkl]
       have hst : bestC cs vs r c * den (lowC cs vs r SS[k - 1]) (sizeC cs SS[k - 1]) < lowC cs vs r SS[k - 1] * den (bestC cs vs r c) (sizeC cs c) := by
        rw [g4, e0] at hcK
        unfold mayL at hcK
        rw [List.mem_filter] at hcK
        have h2 : ¬ (lowC cs vs r SS[k - 1] * den (bestC cs vs r c) (sizeC cs c) ≤ bestC cs vs r c * den (lowC cs vs r SS[k - 1]) (sizeC cs SS[k - 1])) := fun e => hcK ⟨List.mem_range.2 hc, by rw [decide_eq_true e, decide_eq_true h0]; rfl⟩
        omega
       have hdc : 0 < den (bestC cs vs r c) (sizeC cs c) := hs.pos _ _ h0 (hbl c).1 (hbl c).2
       have hT : ∀ t ∈ SS.take k, t ∈ S ∧ bestC cs vs r c * den (comC cs q t) (sizeC cs t) < comC cs q t * den (bestC cs vs r c) (sizeC cs c) := by
        intro t ht
        obtain ⟨ht1, ht2⟩ := g2 t (List.mem_of_mem_take ht)
        have h4 := hle t
        refine ⟨(hS.2 t).2 ⟨ht1, by omega⟩, ?_⟩
        have h5 : lowC cs vs r SS[k - 1] * den (lowC cs vs r t) (sizeC cs t) ≤ lowC cs vs r t * den (lowC cs vs r SS[k - 1]) (sizeC cs SS[k - 1]) := by
         obtain ⟨i, hi, e⟩ := List.getElem_of_mem ht
         rw [List.length_take] at hi
         rw [List.getElem_take] at e
         by_cases hik : i = k - 1
         ·subst hik
          rw [e]
          exact Nat.le_refl _
         ·have h3 := List.pairwise_iff_getElem.1 g1 i (k - 1) (by omega) hkl (by omega)
          rw [e] at h3
          unfold befH at h3
          omega
        have hk1 := g2 _ (List.getElem_mem hkl)
        have hkd : 0 < den (lowC cs vs r SS[k - 1]) (sizeC cs SS[k - 1]) := hs.pos _ _ hk1.2 (Nat.le_trans (hle _) (com_le_q _)) (Nat.le_trans (hle _) (com_le_size hq _))
        have htd : 0 < den (lowC cs vs r t) (sizeC cs t) := hs.pos _ _ ht2 (Nat.le_trans (hle _) (com_le_q _)) (Nat.le_trans (hle _) (com_le_size hq _))
        have h6 := hs.mono (lowC cs vs r t) (comC cs q t) (sizeC cs t) ht2 h4 (com_le_q t) (com_le_size hq t)
        have h7 : bestC cs vs r c * den (lowC cs vs r t) (sizeC cs t) < lowC cs vs r t * den (bestC cs vs r c) (sizeC cs c) := cross_ge_gt htd h5 hst
        exact cross_ge_gt (hs.pos _ _ (by omega) (com_le_q t) (com_le_size hq t)) h6 h7
       have hTn : (SS.take k).Nodup := (befH_nodup g1).sublist (List.take_sublist _ _)
       have hTl : (SS.take k).length = k := by rw [List.length_take]; omega
       have hSk : k ≤ S.length := by
        have h8 := nodup_leB hTn fun t ht => (hT t ht).1
        omega
       refine ⟨hSk, S[k - 1], ?_, .inl ?_⟩
       ·rw [List.getElem?_take, if_pos (by omega), List.getElem?_eq_getElem (by omega)]
       ·rcases Nat.lt_or_ge (bestC cs vs r c * den (comC cs q S[k - 1]) (sizeC cs S[k - 1])) (comC cs q S[k - 1] * den (bestC cs vs r c) (sizeC cs c)) with h8 | h8
        ·exact h8
        ·exfalso
         have hsub : ∀ t ∈ SS.take k, t ∈ S.take (k - 1) := by
          intro t ht
          obtain ⟨ht1, ht2⟩ := hT t ht
          obtain ⟨i, hi, e⟩ := List.getElem_of_mem ht1
          rcases Nat.lt_or_ge i (k - 1) with h9 | h9
          ·refine List.mem_of_getElem? (i := i) ?_
           rw [List.getElem?_take, if_pos h9, List.getElem?_eq_getElem hi, e]
          ·exfalso
           have h10 : comC cs q t * den (comC cs q S[k - 1]) (sizeC cs S[k - 1]) ≤ comC cs q S[k - 1] * den (comC cs q t) (sizeC cs t) := by
            by_cases hik : i = k - 1
            ·subst hik
             rw [e]
             exact Nat.le_refl _
            ·have h11 := List.pairwise_iff_getElem.1 hS.1 (k - 1) i (by omega) hi (by omega)
             rw [e] at h11
             unfold befH at h11
             omega
           have hsp := hpos _ (List.getElem_mem (show k - 1 < S.length by omega))
           have hsd : 0 < den (comC cs q S[k - 1]) (sizeC cs S[k - 1]) := hs.pos _ _ hsp.2 (com_le_q _) (com_le_size hq _)
           have h12 := cross_ge_gt hsd h10 ht2
           omega
         have h9 := nodup_leB hTn hsub
         rw [hTl, List.length_take] at h9
         omega
      ·exact absurd (hall e c) hPc
    obtain ⟨hkS, s, hs1, hs2⟩ := main
    have hkd : ds.length = k := by omega
    obtain ⟨s', e1, e2, hh, -, -⟩ := hat (k - 1) (by omega)
    rw [hs1] at e1
    obtain rfl := Option.some.inj e1
    show othK k ds (cs.getD c Cv.z).1.1 ((cs.getD c Cv.z).1.2 : Int) ((kn c).2 / Nat.gcd (kn c).2 (den (kn c).2 (sizeC cs c))) (den (kn c).2 (sizeC cs c) / Nat.gcd (kn c).2 (den (kn c).2 (sizeC cs c))) = true
    unfold othK
    rw [decide_eq_true hkd, Bool.true_and, Bool.or_eq_true]
    right
    exact decide_eq_true (hlast s _ e2 hh c _ hc h0 hs2)
  ·rw [decide_eq_false h0]
   rfl
theorem top_checks0 (den : Nat → Nat → Nat) (cs : List Cv) (kn : Nat → Nat × Nat) : folTopB cs den kn 0 [] = true := by
 unfold folTopB followB
 rw [Bool.and_eq_true, Bool.and_eq_true]
 refine ⟨rfl, rfl, all_yes fun c _ => ?_⟩
 unfold colOkB othK
 simp
end Go.Proofs.YtikiimlmoalbcaaGreatDoor

namespace Go.Proofs.YtikiimlmoalbcaaGreatDoor
open Go.RowKit
theorem inN_none (w : World) (S : Nat → Prop) (a : Option Addr) : InN w S (.slice a 0 0) [] := ⟨a, 0, rfl, Nat.le_refl _, by unfold maxLen; omega, fun h => absurd h (by simp)⟩
theorem cert_R {den : Nat → Nat → Nat} {cs : List Cv} {q : List ByteArray} {k B : Nat} {W : World} {la ca : Option Addr} {ln lc cn cc : Nat} (hs : Sco q.length den) (hk : CvsOk cs) (hq : q.Nodup) (hql : q.length ≤ 1048576)
  (h : CertE (k = 0 ∧ ln = 0 ∧ lc = 0 ∧ cn = 0 ∧ cc = 0) cs q (fun vs r cols => GoodT den cs vs k r cols) B W (.slice la ln lc) (.slice ca cn cc)) :
  ∃ L K, CertR W cs (.slice la ln lc) (.slice ca cn cc) L K ∧ ∀ (S : List Nat) (ds : List Mq), HitsOk den cs q S → HitsOf den cs (comC cs q) ds → ds.map (colQ cs) = S.take k → folTopB cs den (bndB cs q L K) k ds = true := by
 have h0 : ∀ (S : List Nat) (ds : List Mq) (kn : Nat → Nat × Nat), ds.map (colQ cs) = S.take 0 → folTopB cs den kn 0 ds = true := fun S ds kn e => by
  have e1 : ds = [] := List.map_eq_nil_iff.1 (by rw [e]; rfl)
  subst e1
  exact top_checks0 den cs kn
 rcases h with ⟨rfl, rfl, rfl, rfl, rfl⟩ | ⟨pl, r, cols, h1, h2, h3, h4, h5, h6⟩
 ·exact ⟨[], [], ⟨inN_none _ _ _, inN_none _ _ _, List.Pairwise.nil, List.Pairwise.nil, fun _ h => absurd h (by simp), fun _ h => absurd h (by simp), by simp⟩, fun S ds _ _ e => h0 S ds _ e⟩
 ·have hvn := vs_nodup h2 hq
  have hpn : pl.Nodup := by
   unfold vsOf List.Nodup at hvn
   rw [List.pairwise_map] at hvn
   exact hvn.imp fun hab e => hab (by rw [e])
  have hsn : (sortN (pl.take r)).Nodup := (sortN_perm _).nodup_iff.2 (hpn.sublist (List.take_sublist _ _))
  have hvl : (vsOf cs pl).length = pl.length := List.length_map ..
  have hvq := vs_le h2
  refine ⟨sortN (pl.take r), cols, ⟨InK.more h4 fun k hk => hk.2, InK.more h5.mem fun k hk => hk.2, ?_, ?_, fun x hx => ?_, h5.lt, ?_⟩, fun S ds hS hof hcol => ?_⟩
  ·exact ((sortN_up (pl.take r)).and hsn).imp fun {a b} hab => by have := hab.1; have := hab.2; omega
  ·rcases h6 with ⟨SS, -, -, -, g4⟩ | ⟨-, g4⟩
   ·rw [g4]
    exact List.pairwise_lt_range.sublist List.filter_sublist
   ·rw [g4]
    exact List.Pairwise.nil
  ·have hx1 := List.mem_of_mem_take ((sortN_perm _).mem_iff.1 hx)
   obtain ⟨j, hj, rfl⟩ := List.getElem_of_mem hx1
   have h7 := h1 j hj
   rw [← List.getElem_eq_getD (h := hj)] at h7
   exact h7
  ·rw [(sortN_perm _).length_eq, List.length_take]
   omega
  ·by_cases hk0 : 0 < k
   ·exact top_checks hs hk hq h2 (by rw [hvl]; exact h3) hS hof hcol (fun c => bnd_vs h2 hq c) hk0 (h6.imp id fun h => by rw [hvl]; exact h.1)
   ·obtain rfl : k = 0 := by omega
    exact h0 S ds _ hcol
end Go.Proofs.YtikiimlmoalbcaaGreatDoor

namespace Go.Proofs.YtikiimlmoalbcaaGreatDoor
open Go.RowKit
def sA : ByteArray := ⟨#[97]⟩
def sB : ByteArray := ⟨#[98]⟩
def sC : ByteArray := ⟨#[99]⟩
def q19 : List ByteArray := [sA, sB, sC]
def c19a : Cv := ((0, 0), q19)
def c19b : Cv := ((0, 1), [sC])
def cs19 : List Cv := [c19a, c19b]
theorem put19a : putL [] (putK [] c19a) c19a = [c19a] := rfl
theorem put19b : putL [c19a] (putK [c19a] c19b) c19b = cs19 := by decide +kernel
theorem asc19 : Asc q19 := by unfold Asc q19; decide +kernel
theorem asc19c : Asc [sC] := List.pairwise_singleton _ _
theorem ok19n : CvsOk [] := ⟨List.Pairwise.nil, fun _ h => absurd h (by simp), fun _ h => absurd h (by simp), fun _ h => absurd h (by simp), by simp⟩
theorem ok19a : CvsOk [c19a] := by
 have h := put_ok ok19n (c := c19a) (fun _ h => absurd h (by simp)) (by decide) asc19 (by decide) (by decide)
 rwa [put19a] at h
theorem ok19 : CvsOk cs19 := by
 have h := put_ok ok19a (c := c19b) (fun x hx => by rw [List.mem_singleton.1 hx]; decide) (by decide) asc19c (by decide) (by decide)
 rwa [put19b] at h
theorem com19 : comC cs19 q19 0 = 3 ∧ comC cs19 q19 1 = 1 := by decide +kernel
theorem vals19 : setOfL (allOf cs19) = q19 := by decide +kernel
theorem bnd19 : bndB cs19 q19 [0, 1] [] 1 = (0, 1) := by decide +kernel
theorem hits19 : HitsOk den1 cs19 q19 [0, 1] := by
 refine ⟨List.pairwise_pair.2 ?_, fun c => ⟨fun h => ?_, fun h => ?_⟩⟩
 ·unfold befH den1
  rw [com19.1, com19.2]
  left; omega
 ·simp at h
  rcases h with rfl | rfl
  ·exact ⟨by decide, by rw [com19.1]; omega⟩
  ·exact ⟨by decide, by rw [com19.2]; omega⟩
 ·have h1 : c < 2 := h.1
  simp
  omega
theorem vs19 : vsOf cs19 [0, 1, 2] = q19 := by decide +kernel
theorem read19 : ReadOk cs19 q19 (vsOf cs19 [0, 1, 2]) := by
 have e : q19.filter (hasL (setOfL (allOf cs19))) = q19 := by decide +kernel
 unfold ReadOk
 rw [e, vs19]
theorem srt19 : sortN (([0, 1, 2] : List Nat).take 2) = [0, 1] := by
 unfold sortN
 exact List.mergeSort_of_pairwise (by decide)
theorem good19 : GoodT den1 cs19 (vsOf cs19 [0, 1, 2]) 1 2 [0] := by
 refine ⟨[0], List.pairwise_singleton _ _, fun c hc => ?_, by decide, ?_⟩
 ·rw [List.mem_singleton.1 hc]
  decide +kernel
 ·decide +kernel
theorem nd19 : q19.Nodup := asc_nodupB asc19
theorem check19 {ds : List Mq} (hof : HitsOf den1 cs19 (comC cs19 q19) ds) (hcol : ds.map (colQ cs19) = [0]) : checkB cs19 q19 [0, 1] [0] 1 ds = true := by
 unfold checkB
 have h := fun c => bnd_vs (K := [0]) (r := 2) read19 nd19 c
 rw [srt19] at h
 exact top_checks (overlap_sco q19.length) ok19 nd19 read19 (by decide) hits19 hof (by rw [hcol]; rfl) h (by omega) (.inl good19)
end Go.Proofs.YtikiimlmoalbcaaGreatDoor
