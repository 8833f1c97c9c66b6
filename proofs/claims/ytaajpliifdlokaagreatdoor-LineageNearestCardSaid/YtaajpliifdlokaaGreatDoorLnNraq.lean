/- Contract of explain.distinct. Contract of explain.project. Plain: a sorted list of texts without repetitions is the set of its texts; two sets with the same texts are one. No program in sight. -/
import Derived.Test.YtaajpliifdlokaaGreatDoorLnNram
import Derived.Test.YtaajpliifdlokaaGreatDoorLnNrap
import Derived.Test.YtaajpliifdlokaaGreatDoorLnNrah
import Derived.Test.YtaajpliifdlokaaGreatDoorLnNrac
import Derived.Lib.SlicesCompact
import Derived.Sort.EncStr
import Derived.Sort.Walk0
import Derived.Test.YtaajpliifdlokaaGreatDoorLnNraa
set_option linter.unusedVariables false
set_option linter.unusedSimpArgs false
namespace Go.Proofs.YtaajpliifdlokaaGreatDoor
open Go.RowKit
theorem any_range (out : List Nat) (f : Nat → Bool) : (List.range out.length).any (fun j => f (out.getD j 0)) = out.any f := by
  conv => rhs; rw [← map_range_getD out]
  rw [List.any_map]
  rfl
def opDist0 : Po := ⟨4, 0, ⟨#[]⟩, []⟩
def GotNums (w : World) (L : List Nat) (e : Ending) (w' : World) : Prop := ∃ a c, e = .returned (.slice a L.length c) ∧ Rd w' w'.heap.size (.slice a L.length c) L.length (natF L) ∧ Below w.heap.size w w'
set_option maxRecDepth 100000 in
set_option maxHeartbeats 2000000 in
theorem expl_distinct (o : Po) (hok : o.kind = 4) (id : Int) (nm : ByteArray) (v : Value) (xs : List Co) (n B : Nat) (w : World) (hv : RdCo w (· < B) v xs) (hB : B ≤ w.heap.size) (hc : ∀ x ∈ xs, x.cells.length = n) (hn : rowsC xs = n) (hn4 : n ≤ 4096) (hl : xs.length ≤ 1048576) :
  Calls Tryz.prog 250 #[.agg #[.int .i64 id, .string nm, v]] w (GotNums w (rowsL xs o n)) := by
 obtain ⟨i0, hi0, hz0, hz1, hz2⟩ := info_parts info_int0
 have hkeep := fun W (hW : Below w.heap.size w W) => (hv.keep fun p (hp : p.block < B) => hW.cell (p := p) (by omega) : RdCo W (· < B) v xs)
 have HRW := hid (fun W (hW : Below w.heap.size w W) => table_Rows id nm v xs B W (hkeep W hW) (Nat.le_trans hB hW.size))
 rw [hn] at HRW
 have HCF := hid (fun u q tb ib W (hW : Below w.heap.size w W) (hq : q < n) (ht : BoxN W tb 51 #[.int .i64 id, .string nm, v]) (hib : W.cell? ⟨ib, 0, none⟩ = some (.int .i64 (q : Int))) (hiz : ib < W.heap.size) (hu : IntsAt W W.heap.size u (rowsL xs o q).length (fun j => (((rowsL xs o q).getD j 0 : Nat) : Int))) =>
  has_dist u (rowsL xs o q).length (fun j => (((rowsL xs o q).getD j 0 : Nat) : Int)) (fun j => decide (rowC xs q = rowC xs ((rowsL xs o q).getD j 0))) tb ib W.heap.size W hu (Nat.le_refl _) (fun j hj W' hW' =>
   expl_distinct1 id nm v xs q ((rowsL xs o q).getD j 0) tb ib B W' (hkeep W' (hW.trans (hW'.mono hW.size))) (by have := hW.size; have := hW'.size; omega) (fun x hx => by rw [hc x hx]; exact hq) (fun x hx => by rw [hc x hx]; have := (rowsL_ok xs o q).2 _ (getD_mem hj 0); omega) hl (ht.below hW' ht.lt) ((hW'.cell (p := ⟨ib, 0, none⟩) hiz).trans hib) (Nat.lt_of_lt_of_le hiz hW'.size)))
 have HST := hid (fun q (_ : q < n) => (rowsL_succ xs o q).trans (stepL_D hok (rowsL xs o q) q))
 have HAN := hid (fun q => any_range (rowsL xs o q) (fun k => decide (rowC xs q = rowC xs k)))
 have HLN := hid (fun q => (rowsL_ok xs o q).1)
 have h0 : rowsL xs o 0 = [] := rfl
 generalize rowsL xs o = F at *
 obtain ⟨va, vc, rfl⟩ : ∃ a c, v = .slice a xs.length c := by
  obtain ⟨cv, ⟨a, c, e, -⟩, -⟩ := hv
  exact ⟨a, c, e⟩
 clear hv hkeep hc hn
 generalize xs.length = L at *
 have HX0 := hid (BoxN.new w #[.int .i64 id, .string nm, .slice va L vc] 51)
 have HB0 := hid ((Below.refl w.heap.size w).alloc (Nat.le_refl _) (.cells #[.int .i64 id, .string nm, .slice va L vc] 51))
 have x0 := HX0.out.cell 0 rfl
 have x1 := HX0.out.cell 1 rfl
 have x2 := HX0.out.cell 2 rfl
 have hz0' : (w.alloc (.cells #[.int .i64 id, .string nm, .slice va L vc] 51)).heap.size = w.heap.size + 1 := by simp
 go_enter Tryz.func250, Tryz.ntmps250
 generalize hLA : Code.loop _ = LA
 go_wp2_with fail
 with_reducible refine (HRW.out _ HB0.out).mono ?_
 generalize w.alloc (.cells #[.int .i64 id, .string nm, .slice va L vc] 51) = W0 at *
 rintro e w1 ⟨rfl, hb1⟩
 have HB1 := hid (HB0.out.trans (hb1.mono (by omega)))
 have HX1 := hid (HX0.out.below hb1 HX0.out.lt)
 have hz1' := hb1.size
 clear x0 x1 x2 hb1 HRW HX0
 go_wp2_with fail
 subst hLA
 go_loopg [3, 7] n (fun N y s wr => ∃ q : Nat, s = .int .i64 (q : Int) ∧ q + N = n ∧ Hid (Below w1.heap.size w1 wr) ∧ w1.heap.size ≤ wr.heap.size ∧ Hid (wr.ownsRow w1.heap.size 3 1 y (F q).length (iv (F q))))
 case atStart => exact ⟨0, rfl, by omega, hid (Below.refl _ _), Nat.le_refl _, hid (by rw [h0]; exact World.ownsRow_nil _ _ _ _)⟩
 case round =>
  obtain ⟨q, rfl, hq, HB, hlo, HO⟩ := hrel
  obtain ⟨ya, yc, rfl⟩ := own_slice HO.out
  by_cases hp : 0 < gk
  ·have hqn : q < n := by omega
   have hXr := HX1.out.below HB.out HX1.out.lt
   have HXr := hid (hXr.alloc (.cells #[.int .i64 (q : Int)] 3))
   have HIr := hid (BoxN.new wr #[.int .i64 (q : Int)] 3)
   have hi1 := HIr.out.cell 0 rfl
   have HBr := hid (HB.out.alloc hlo (.cells #[.int .i64 (q : Int)] 3))
   have HOr := hid (HO.out.alloc (.cells #[.int .i64 (q : Int)] 3))
   have HRr := hid (show IntsAt (wr.alloc (.cells #[.int .i64 (q : Int)] 3)) (wr.alloc (.cells #[.int .i64 (q : Int)] 3)).heap.size (.slice ya (F q).length yc) (F q).length (fun j => (((F q).getD j 0 : Nat) : Int)) from inK_of_rd (rd_of_owns HOr.out (natF (F q)) (fun i hi => iv_at hi)))
   have hzr : (wr.alloc (.cells #[.int .i64 (q : Int)] 3)).heap.size = wr.heap.size + 1 := by simp
   have HCQ := hid (HCF.out (.slice ya (F q).length yc) q w.heap.size wr.heap.size _ (HB1.out.trans (HBr.out.mono (by omega))) hqn HXr.out hi1 (by omega) HRr.out)
   have HSTq := hid (HST.out q hqn)
   have hln := HLN.out q
   rw [HAN.out q] at HCQ
   clear hXr
   generalize hFq : F q = X at *
   have HFQ := hid hFq
   clear hFq
   generalize X.any (fun k => decide (rowC xs q = rowC xs k)) = hb at *
   generalize hxl : X.length = m at *
   have HXL := hid hxl
   clear hxl
   go_wp2_with fail
   with_reducible refine HCQ.out.mono ?_
   generalize wr.alloc (.cells #[.int .i64 (q : Int)] 3) = W2 at *
   rintro e w3 ⟨rfl, hb3⟩
   have HB3 := hid (HBr.out.trans (hb3.mono (by omega)))
   have HO3 := hid (own_later HOr.out hb3)
   have hz3 := hb3.size
   have i3 := (HIr.out.below hb3 HIr.out.lt).cell 0 rfl
   clear hi1 hb3
   cases hbb : hb with
   | true =>
    subst hbb
    go_wp2
    go_roundg (gk - 1)
    case rel =>
     refine ⟨q + 1, by go_num, by omega, HB3, by omega, hid ?_⟩
     rw [HSTq.out, if_pos (by trivial)]
     rw [HXL.out]
     exact HO3.out
    case measure => omega
   | false =>
    subst hbb
    have HO4 := hid (HO3.out.alloc (.cells #[.int .i64 (q : Int)] 3))
    have HN4 := hid (BoxN.new w3 #[.int .i64 (q : Int)] 3)
    have HB4 := hid (HB3.out.alloc (by omega) (.cells #[.int .i64 (q : Int)] 3))
    go_wp2_with (at_builtin; refine wpList_append_form _ rfl _ _ 22 22 rfl w1.heap.size 3 3 i0 (.int .i64 0) 1 8 Tryz.underlying22 Tryz.underlying22 hi0 hz0 hz1 hz2 rfl (by decide) (.slice ya m yc) m _ rfl HO4.out (some ⟨_, 0, none⟩) 1 1 [.int .i64 (q : Int)] rfl rfl (fun _ => ⟨_, rfl, World.news_of_block HN4.out⟩) (by intro u hu; simp at hu; subst hu; rfl) (by omega) (by unfold maxLen; omega) (by omega) (by simp; omega) ?_; intro p8 cap8 w8 hown8 hg8 hat8 hlt8; have HG8 := hid hg8; have HOWN8 := hid hown8; clear hown8 hg8 hat8)
    clear i3
    go_wp2
    go_roundg (gk - 1)
    case rel =>
     have hgs := HG8.out.size
     refine ⟨q + 1, by go_num, by omega, hid (HB4.out.grown HG8.out (by simp; omega) (fun k hk => (HO3.out.lt k hk).1)), by simp at hgs; omega, hid ?_⟩
     rw [HSTq.out, if_neg (by simp)]
     rw [List.length_append, List.length_singleton, HXL.out]
     have e1 : iv (X ++ [q]) = iv X ++ [.int .i64 (q : Int)] := by simp [iv]
     rw [e1]
     exact HOWN8.out
    case measure => omega
  ·obtain rfl : gk = 0 := by omega
   obtain rfl : q = n := by omega
   go_wp2
   go_ret
   exact ⟨_, _, rfl, rd_of_owns HO.out (natF (F q)) (fun i hi => iv_at hi), HB1.out.trans (HB.out.mono (by omega))⟩
end Go.Proofs.YtaajpliifdlokaaGreatDoor

namespace Go.Proofs.YtaajpliifdlokaaGreatDoor
open Go.RowKit
set_option maxHeartbeats 1000000 in
theorem project1 (x : Co) (u : Value) (s : ByteArray) (cb : Nat) (w : World) (hu : ∃ a n c, u = .slice a n c) (h1 : w.cell? ⟨cb, 0, none⟩ = some (.string s)) (hcb : cb < w.heap.size) :
    Calls Tryz.prog 166 #[.agg #[.string x.name, u], .pointer (some ⟨cb, 0, none⟩)] w (Ret w (.bool (decide (x.name = s)))) := by
  obtain ⟨ua, un, uc, rfl⟩ := hu
  obtain ⟨xn, xc⟩ := x
  simp only
  have hx := BoxN.new w #[.string xn, .slice ua un uc] 55
  have x0 := hx.cell 0 rfl
  have k1 : (w.alloc (.cells #[.string xn, .slice ua un uc] 55)).cell? ⟨cb, 0, none⟩ = some (.string s) := (World.cell?_alloc_lt _ _ _ hcb).trans h1
  have HB0 := hid ((Below.refl w.heap.size w).alloc (Nat.le_refl _) (.cells #[.string xn, .slice ua un uc] 55))
  clear hx h1
  by_cases h : xn = s
  · subst h
    have h2 : (xn.toList == xn.toList) = true := by simp
    have HR : Hid (decide (xn = xn) = true) := hid (by simp)
    go_enter Tryz.func166, Tryz.ntmps166
    go_wp2
    go_ret
    exact ⟨ret_bool HR.out.symm, HB0.out⟩
  · have h2 : (xn.toList == s.toList) = false := by
      cases h5 : (xn.toList == s.toList) with
      | false => rfl
      | true => exact absurd (bytes_ext (eq_of_beq h5)) h
    have HR : Hid (decide (xn = s) = false) := hid (decide_eq_false h)
    clear h
    go_enter Tryz.func166, Tryz.ntmps166
    go_wp2
    go_ret
    exact ⟨ret_bool HR.out.symm, HB0.out⟩
set_option maxRecDepth 100000 in
set_option maxHeartbeats 1000000 in
theorem idx_cols (v : Value) (xs : List Co) (s : ByteArray) (cb B : Nat) (w : World) (hv : RdCo w (· < B) v xs) (hB : B ≤ w.heap.size) (h1 : w.cell? ⟨cb, 0, none⟩ = some (.string s)) (hcb : cb < w.heap.size) :
  Calls Tryz.prog 165 #[v, .func (.func 166) #[] #[.pointer (some ⟨cb, 0, none⟩)]] w (fun e w' => ∃ r, e = .returned (.int .i64 r) ∧ Fst (fun k => decide ((xs.getD k Co.z).name = s)) xs.length r ∧ Below w.heap.size w w') := by
 obtain ⟨cv, ⟨a, c, rfl, hc, hm, hr⟩, hcl⟩ := hv
 have HR := hid hr
 have HCL := hid (fun q (hq : q < xs.length) => (by obtain ⟨a, c, e, -⟩ := hcl q hq; exact ⟨_, _, _, e⟩ : ∃ a n c, cv q = .slice a n c))
 have HV1 := hid (fun q (hq : q < xs.length) W (hW : Below w.heap.size w W) => project1 (xs.getD q Co.z) (cv q) s cb W (HCL.out q hq) ((hW.cell (p := ⟨cb, 0, none⟩) hcb).trans h1) (Nat.lt_of_lt_of_le hcb hW.size))
 obtain ⟨p, hp⟩ : ∃ p : Nat → Bool, p = fun k => decide ((xs.getD k Co.z).name = s) := ⟨_, rfl⟩
 have HP := hid hp
 have HPQ := hid (fun q => (by rw [hp] : p q = decide ((xs.getD q Co.z).name = s)))
 rw [← hp]
 clear hr hcl hp
 unfold maxLen at hm
 generalize hxl : xs.length = L at *
 clear hxl
 go_enter Tryz.func165, Tryz.ntmps165
 go_wp2_with fail
 go_loopg [8] L (fun N i wr => ∃ q : Nat, q + N = L ∧ i = .int .i64 (q : Int) ∧ Hid (Below w.heap.size w wr) ∧ Hid (∀ j, j < q → p j = false))
 case atStart => exact ⟨0, by omega, rfl, hid (Below.refl _ _), hid (fun j h => absurd h (by omega))⟩
 case round =>
  obtain ⟨q, hq, rfl, HB, HALL⟩ := hrel
  by_cases hp : 0 < gk
  ·obtain ⟨b, o, rfl, hb, hcell⟩ := HR.out (by omega)
   have hbw : b < w.heap.size := by have : b < B := hb; omega
   obtain ⟨qa, qn, qc, hcq⟩ := HCL.out q (by omega)
   have k0 : wr.cell? ⟨b, o + q * 2, none⟩ = some (.string (xs.getD q Co.z).name) := (HB.out.cell (p := ⟨b, o + q * 2, none⟩) hbw).trans (hcell q (by omega) 0 (by omega))
   have k1 : wr.cell? ⟨b, o + q * 2 + 1, none⟩ = some (cv q) := (HB.out.cell (p := ⟨b, o + q * 2 + 1, none⟩) hbw).trans (hcell q (by omega) 1 (by omega))
   have HVQ := hid (HV1.out q (by omega) wr HB.out)
   rw [hcq] at k1 HVQ
   rw [← HPQ.out q] at HVQ
   have HST : Hid (p q = false → ∀ j, j < q + 1 → p j = false) := hid (fun h j hj => by
    rcases Nat.lt_or_ge j q with h1 | h1
    ·exact HALL.out j h1
    ·obtain rfl : j = q := by omega
     exact h)
   clear hcell hcq
   generalize (xs.getD q Co.z).name = nm at *
   go_wp2_with fail
   with_reducible refine HVQ.out.mono ?_
   rintro e w6 ⟨rfl, hb6⟩
   have HB6 := hid (HB.out.trans (hb6.mono HB.out.size))
   clear hb6 k0 k1
   cases hpq : p q with
   | true =>
    have HPT := hid hpq
    clear hpq
    go_wp2
    go_ret
    exact ⟨_, rfl, .inr ⟨q, rfl, by omega, HPT.out, HALL.out⟩, HB6.out⟩
   | false =>
    have HS2 := hid (HST.out hpq)
    clear hpq
    go_wp2_with fail
    go_roundg (gk - 1)
    case rel => exact ⟨q + 1, by omega, by go_num, HB6, HS2⟩
    case measure => omega
  ·obtain rfl : q = L := by omega
   go_wp2
   go_ret
   exact ⟨_, rfl, .inl ⟨rfl, HALL.out⟩, HB.out⟩
theorem fst_idx {a : List Co} {s : ByteArray} {r : Int} (h : Fst (fun k => decide ((a.getD k Co.z).name = s)) a.length r) : (r = -1 ∧ s ∉ namesL a) ∨ (s ∈ namesL a ∧ r = (idxN a s : Int)) := by
  rcases h with ⟨rfl, h⟩ | ⟨i, rfl, hi, h1, h2⟩
  · left
    refine ⟨rfl, fun hm => ?_⟩
    have h3 := idxN_lt hm
    have h4 := of_decide_eq_false (h _ h3)
    exact h4 (idxN_name hm)
  · right
    have hs : (a.getD i Co.z).name = s := of_decide_eq_true h1
    have hm : s ∈ namesL a := by rw [← hs]; exact name_mem hi
    refine ⟨hm, ?_⟩
    have h3 := idxN_lt hm
    have h4 := idxN_name hm
    rcases Nat.lt_trichotomy (idxN a s) i with h5 | h5 | h5
    · exact absurd h4 (of_decide_eq_false (h2 _ h5))
    · rw [h5]
    · have h6 := idxP_before (l := namesL a) (s := s) (j := i) h5
      rw [namesL_getD] at h6
      exact absurd hs h6
def plainTo (a b : List Co) (q : Nat) : Bool := decide (a.length = b.length) && decide ((fromL a b).take q = List.range q)
theorem from_len (a b : List Co) : (fromL a b).length = b.length := by simp [fromL]
theorem from_snoc {a b : List Co} {q : Nat} (h : q < b.length) : (fromL a b).take (q + 1) = (fromL a b).take q ++ [idxN a (b.getD q Co.z).name] := by
  rw [List.take_succ_eq_append_getElem (by rw [from_len]; exact h)]
  simp [fromL, List.getD, h]
theorem plain_snoc {a b : List Co} {q : Nat} (h : q < b.length) : plainTo a b (q + 1) = (plainTo a b q && decide (idxN a (b.getD q Co.z).name = q)) := by
  unfold plainTo
  rw [from_snoc h, List.range_succ, Bool.and_assoc]
  congr 1
  have hl : ((fromL a b).take q).length = (List.range q).length := by rw [List.length_take, from_len, List.length_range]; omega
  rw [← Bool.decide_and, decide_eq_decide]
  constructor
  · intro h
    obtain ⟨h1, h2⟩ := List.append_inj h hl
    exact ⟨h1, by simpa using h2⟩
  · rintro ⟨h1, h2⟩
    rw [h1, h2]
theorem proj_miss {a b : List Co} {q : Nat} (hq : q < b.length) (h : (b.getD q Co.z).name ∉ namesL a) : projOf a b = none := by
  unfold projOf
  rw [if_neg]
  intro hh
  have := List.all_eq_true.1 hh _ (getD_mem hq Co.z)
  obtain ⟨s, hs, he⟩ := List.any_eq_true.1 this
  exact h (by rw [← of_decide_eq_true he]; exact hs)
theorem proj_have {a b : List Co} (h : ∀ q, q < b.length → (b.getD q Co.z).name ∈ namesL a) : projOf a b = if plainTo a b b.length = true then some [] else some [opProj (fromL a b)] := by
  unfold projOf
  rw [if_pos (all_there fun s hs => ?_)]
  · unfold plainTo
    rw [List.take_of_length_le (by rw [from_len]; omega), ← Bool.decide_and]
    simp only [decide_eq_true_eq]
  · obtain ⟨c, hc, rfl⟩ := List.mem_map.1 hs
    obtain ⟨i, hi, rfl⟩ := List.getElem_of_mem hc
    have := h i hi
    simpa [List.getD, hi] using this
theorem ks_own {w : World} {base : Nat} {v : Value} {ks : List Nat} (h : w.ownsRow base 3 1 v ks.length (iv ks)) : RdKs w (fun b => base ≤ b ∧ b < w.heap.size) v (ks.map fun (k : Nat) => (k : Int)) := by
  obtain ⟨a, c, rfl⟩ := own_slice h
  by_cases hp : 0 < ks.length
  · obtain ⟨g, cap, e, -, -⟩ := h.form hp
    obtain ⟨rfl, -, rfl⟩ := Value.slice.inj e
    obtain ⟨h1, h2, h3, h4⟩ := own_caps h
    refine ⟨_, _, by rw [List.length_map], by rw [List.length_map]; exact h1, h2, fun _ => ⟨g, 0, rfl, ⟨h3, h4⟩, fun i hi j hj => ?_⟩⟩
    obtain rfl : j = 0 := by omega
    rw [List.length_map] at hi
    rw [show 0 + i * 1 + 0 = i by omega, h.cellAt i (by omega), iv_at hi]
    simp [natF, zF, List.getD, hi]
  · have e : ks = [] := List.eq_nil_of_length_eq_zero (by omega)
    subst e
    have hc : 0 ≤ c ∧ c ≤ maxLen := by
      rcases h.2 with ⟨e1, _⟩ | ⟨g, cap, cur, e1, _, _, _, hm, _⟩
      · obtain ⟨-, -, rfl⟩ := Value.slice.inj e1
        exact ⟨Nat.le_refl _, Nat.zero_le _⟩
      · obtain ⟨-, -, rfl⟩ := Value.slice.inj e1
        exact ⟨Nat.zero_le _, hm⟩
    exact ⟨a, c, rfl, hc.1, hc.2, fun h => absurd h (by simp)⟩
def ProjP (w : World) (a b : List Co) (e : Ending) (w' : World) : Prop :=
  ∃ v, e = .returned (.tuple #[v, .bool (projOf a b).isSome]) ∧ RdPo w' (News w w') v ((projOf a b).getD []) ∧ Below w.heap.size w w'
set_option maxRecDepth 100000 in
set_option maxHeartbeats 4000000 in
theorem expl_project (ia ib : Int) (na nb : ByteArray) (u v : Value) (a b : List Co) (B : Nat) (w : World) (hu : RdCo w (· < B) u a) (hv : RdCo w (· < B) v b) (hB : B ≤ w.heap.size) (hla : a.length ≤ 64) (hlb : b.length ≤ 64) :
  Calls Tryz.prog 102 #[.agg #[.int .i64 ia, .string na, u], .agg #[.int .i64 ib, .string nb, v]] w (ProjP w a b) := by
 obtain ⟨i0, hi0, hz0, hz1, hz2⟩ := info_parts info_int0
 have HIX := hid (fun cb s W (hW : Below w.heap.size w W) (h1 : W.cell? ⟨cb, 0, none⟩ = some (.string s)) (hcb : cb < W.heap.size) => idx_cols u a s cb B W (hu.keep fun p (hp : p.block < B) => hW.cell (p := p) (by omega)) (Nat.le_trans hB hW.size) h1 hcb)
 obtain ⟨cu, ⟨ua, uc, rfl, huc, hum, -⟩, -⟩ := hu
 obtain ⟨cv, ⟨va, vc, rfl, hvc, hvm, hvr⟩, hcv⟩ := hv
 have HV := hid hvr
 have HCV := hid (fun q (hq : q < b.length) => (by obtain ⟨a, c, e, -⟩ := hcv q hq; exact ⟨_, _, _, e⟩ : ∃ a n c, cv q = .slice a n c))
 have HFI := hid (fun s r (h : Fst (fun k => decide ((a.getD k Co.z).name = s)) a.length r) => fst_idx h)
 have HFL := hid (from_len a b)
 have HSN := hid (fun q (hq : q < b.length) => @from_snoc a b q hq)
 have HPN := hid (fun q (hq : q < b.length) => @plain_snoc a b q hq)
 have HMI := hid (fun q (hq : q < b.length) h => @proj_miss a b q hq h)
 have HHV := hid (@proj_have a b)
 have HP0 : Hid (plainTo a b 0 = decide (a.length = b.length)) := hid (by simp [plainTo])
 have HIN : Hid (∀ s, s ∈ namesL a → idxN a s < a.length) := hid (fun s hs => idxN_lt hs)
 clear hvr hcv
 unfold maxLen at hum hvm
 generalize hal : a.length = La at *
 generalize hbl : b.length = Lb at *
 clear hal hbl
 have hx0 := ((BoxN.new w #[.int .i64 ia, .string na, .slice ua La uc] 51).alloc (.cells #[.int .i64 ib, .string nb, .slice va Lb vc] 51)).alloc (.cells #[] 3)
 have hy0 := (BoxN.new (w.alloc (.cells #[.int .i64 ia, .string na, .slice ua La uc] 51)) #[.int .i64 ib, .string nb, .slice va Lb vc] 51).alloc (.cells #[] 3)
 rw [World.size_alloc] at hy0
 have HX0 := hid hx0
 have x2 := hx0.cell 2 rfl
 have y2 := hy0.cell 2 rfl
 have HB0 := hid ((((Below.refl w.heap.size w).alloc (Nat.le_refl _) (.cells #[.int .i64 ia, .string na, .slice ua La uc] 51)).alloc (by simp) (.cells #[.int .i64 ib, .string nb, .slice va Lb vc] 51)).alloc (by simp; omega) (.cells #[] 3))
 have ho0 := World.ownsRow_made (base := w.heap.size + 2) (e := 3) (size := 1) ((w.alloc (.cells #[.int .i64 ia, .string na, .slice ua La uc] 51)).alloc (.cells #[.int .i64 ib, .string nb, .slice va Lb vc] 51)) #[] 0 (by simp) (Nat.zero_le _) rfl
 rw [World.size_alloc, World.size_alloc] at ho0
 have HO0 := hid ho0
 have hz0' : (((w.alloc (.cells #[.int .i64 ia, .string na, .slice ua La uc] 51)).alloc (.cells #[.int .i64 ib, .string nb, .slice va Lb vc] 51)).alloc (.cells #[] 3)).heap.size = w.heap.size + 3 := by simp
 have hdl : ((La : Int) == (Lb : Int)) = decide (La = Lb) := by
  by_cases h : La = Lb
  ·subst h; simp
  ·rw [decide_eq_false h]; simp; omega
 clear hx0 hy0 ho0
 go_enter Tryz.func102, Tryz.ntmps102
 generalize hLA : Code.loop _ = LA
 go_wp2_with fail
 generalize ((w.alloc (.cells #[.int .i64 ia, .string na, .slice ua La uc] 51)).alloc (.cells #[.int .i64 ib, .string nb, .slice va Lb vc] 51)).alloc (.cells #[] 3) = W0 at *
 have hz0a := Nat.le_of_eq hz0'
 have hz0b := Nat.le_of_eq hz0'.symm
 clear hz0' x2 y2
 subst hLA
 go_loopg [6, 7, 22] Lb (fun N y pl i wr => ∃ (q : Nat), i = .int .i64 (q : Int) ∧ pl = .bool (plainTo a b q) ∧ q + N = Lb ∧ w.heap.size + 3 ≤ wr.heap.size ∧ Hid (Below w.heap.size w wr) ∧ Hid (BoxN wr w.heap.size 51 #[.int .i64 ia, .string na, .slice ua La uc]) ∧ Hid (wr.ownsRow (w.heap.size + 2) 3 1 y q (iv ((fromL a b).take q))) ∧ Hid (∀ j, j < q → (b.getD j Co.z).name ∈ namesL a))
 case atStart => exact ⟨0, rfl, by rw [HP0.out], by omega, by omega, HB0, HX0, HO0, hid (fun j h => absurd h (by omega))⟩
 case round =>
  obtain ⟨q, rfl, rfl, hq, hlw, HB, HX, HO, HALL⟩ := hrel
  obtain ⟨ya, yc, rfl⟩ := own_slice HO.out
  by_cases hp : 0 < gk
  ·have hqL : q < Lb := by omega
   obtain ⟨ba, oa, rfl, hba, hcella⟩ := HV.out (by omega)
   have hba' : ba < B := hba
   have k1 : wr.cell? ⟨ba, oa + q * 2, none⟩ = some (.string (b.getD q Co.z).name) := (HB.out.cell (p := ⟨ba, oa + q * 2, none⟩) (by show ba < w.heap.size; omega)).trans (hcella q hqL 0 (by omega))
   have k2 : wr.cell? ⟨ba, oa + q * 2 + 1, none⟩ = some (cv q) := (HB.out.cell (p := ⟨ba, oa + q * 2 + 1, none⟩) (by show ba < w.heap.size; omega)).trans (hcella q hqL 1 (by omega))
   obtain ⟨ca, cn, ck, hcq⟩ := HCV.out q hqL
   rw [hcq] at k2
   have HSNq := hid (HSN.out q hqL)
   have HPNq := hid (HPN.out q hqL)
   have HMIq := hid (HMI.out q hqL)
   have HA1 : Hid ((b.getD q Co.z).name ∈ namesL a → ∀ j, j < q + 1 → (b.getD j Co.z).name ∈ namesL a) := hid (fun h j hj => by
    rcases Nat.lt_or_ge j q with h1 | h1
    ·exact HALL.out j h1
    ·obtain rfl : j = q := by omega
     exact h)
   clear hcella hcq
   generalize (b.getD q Co.z).name = s at *
   generalize hpl : plainTo a b q = pl at *
   clear hpl
   have HX2 := hid (HX.out.alloc (.cells #[.string s, .slice ca cn ck] 55))
   have HC2 := hid (BoxN.new wr #[.string s, .slice ca cn ck] 55)
   have HB2 := hid (HB.out.alloc (by omega) (.cells #[.string s, .slice ca cn ck] 55))
   have HO2 := hid (HO.out.alloc (.cells #[.string s, .slice ca cn ck] 55))
   have hz2' : (wr.alloc (.cells #[.string s, .slice ca cn ck] 55)).heap.size = wr.heap.size + 1 := by simp
   have x2 := HX2.out.cell 2 rfl
   have hx2 := HX.out.cell 2 rfl
   go_wp2_with fail
   generalize wr.alloc (.cells #[.string s, .slice ca cn ck] 55) = W2 at *
   have hz2a := Nat.le_of_eq hz2'
   have hz2b := Nat.le_of_eq hz2'.symm
   clear hz2' k1 k2 x2 hx2
   with_reducible refine (HIX.out wr.heap.size s W2 HB2.out (HC2.out.cell 0 rfl) HC2.out.lt).mono ?_
   rintro e w3 ⟨r, rfl, hf, hb3⟩
   have hz3 := hb3.size
   have HB3 := hid (HB2.out.trans (hb3.mono (by omega)))
   have HX3 := hid (HX2.out.below hb3 HX2.out.lt)
   have HO3 := hid (own_later HO2.out hb3)
   clear hb3
   rcases HFI.out s r hf with ⟨rfl, hno⟩ | ⟨hyes, rfl⟩
   ·have HNO := hid (HMIq.out hno)
    clear hno hf
    go_wp2
    refine bodyPost_ret (v := .tuple #[.slice none 0 0, .bool false]) (by simp [results, Tryz.results102, go_sem]) rfl ?_
    unfold ProjP
    rw [HNO.out]
    exact ⟨_, rfl, RdPo.nil, HB3.out⟩
   ·have hkL := HIN.out s hyes
    have HA2 := hid (HA1.out hyes)
    clear hf hyes
    generalize idxN a s = kk at *
    have HN4 := hid (BoxN.new w3 #[.int .i64 (kk : Int)] 3)
    have HO4 := hid (HO3.out.alloc (.cells #[.int .i64 (kk : Int)] 3))
    have HB4 := hid (HB3.out.alloc (by omega) (.cells #[.int .i64 (kk : Int)] 3))
    have HX4 := hid (HX3.out.alloc (.cells #[.int .i64 (kk : Int)] 3))
    have hk0 : ¬ (kk : Int) < 0 := by omega
    cases pl with
    | false =>
     have HP2 : Hid (plainTo a b (q + 1) = false) := hid (by rw [HPNq.out]; rfl)
     go_wp2_with (at_builtin; refine wpList_append_form _ rfl _ _ 22 22 rfl (w.heap.size + 2) 3 3 i0 (.int .i64 0) 1 8 Tryz.underlying22 Tryz.underlying22 hi0 hz0 hz1 hz2 rfl (by decide) (.slice ya q yc) q _ rfl HO4.out (some ⟨_, 0, none⟩) 1 1 [.int .i64 (kk : Int)] rfl rfl (fun _ => ⟨_, rfl, World.news_of_block HN4.out⟩) (by intro u hu; simp at hu; subst hu; rfl) (by omega) (by unfold maxLen; omega) (by omega) (by simp; omega) ?_; intro p8 cap8 w8 hown8 hg8 hat8 hlt8; have HG8 := hid hg8; have HOWN8 := hid hown8; clear hown8 hg8 hat8)
     ·have hgs := HG8.out.size
      go_wp2
      go_roundg (gk - 1)
      case rel =>
       refine ⟨q + 1, by go_num, by rw [HP2.out], by omega, by simp at hgs; omega, hid (HB4.out.grown HG8.out (by simp; omega) (fun k hk => by have := (HO.out.lt k hk).1; omega)), hid (HX4.out.grown HG8.out (fun e => by have := (HO.out.lt _ e.symm).1; omega)), hid ?_, HA2⟩
       rw [HSNq.out, show iv ((fromL a b).take q ++ [kk]) = iv ((fromL a b).take q) ++ [.int .i64 (kk : Int)] by simp [iv]]
       exact HOWN8.out
      case measure => omega
    | true =>
     by_cases hkq : kk = q
     ·have HP2 : Hid (plainTo a b (q + 1) = true) := hid (by rw [HPNq.out, decide_eq_true hkq]; rfl)
      have hke : ((kk : Int) == (q : Int)) = true := by rw [hkq]; simp
      clear hkq
      go_wp2_with (at_builtin; refine wpList_append_form _ rfl _ _ 22 22 rfl (w.heap.size + 2) 3 3 i0 (.int .i64 0) 1 8 Tryz.underlying22 Tryz.underlying22 hi0 hz0 hz1 hz2 rfl (by decide) (.slice ya q yc) q _ rfl HO4.out (some ⟨_, 0, none⟩) 1 1 [.int .i64 (kk : Int)] rfl rfl (fun _ => ⟨_, rfl, World.news_of_block HN4.out⟩) (by intro u hu; simp at hu; subst hu; rfl) (by omega) (by unfold maxLen; omega) (by omega) (by simp; omega) ?_; intro p8 cap8 w8 hown8 hg8 hat8 hlt8; have HG8 := hid hg8; have HOWN8 := hid hown8; clear hown8 hg8 hat8)
      have hgs := HG8.out.size
      go_wp2
      go_roundg (gk - 1)
      case rel =>
       refine ⟨q + 1, by go_num, by rw [HP2.out], by omega, by simp at hgs; omega, hid (HB4.out.grown HG8.out (by simp; omega) (fun k hk => by have := (HO.out.lt k hk).1; omega)), hid (HX4.out.grown HG8.out (fun e => by have := (HO.out.lt _ e.symm).1; omega)), hid ?_, HA2⟩
       rw [HSNq.out, show iv ((fromL a b).take q ++ [kk]) = iv ((fromL a b).take q) ++ [.int .i64 (kk : Int)] by simp [iv]]
       exact HOWN8.out
      case measure => omega
     ·have HP2 : Hid (plainTo a b (q + 1) = false) := hid (by rw [HPNq.out, decide_eq_false hkq]; rfl)
      have hke : ((kk : Int) == (q : Int)) = false := by simp; omega
      clear hkq
      go_wp2_with (at_builtin; refine wpList_append_form _ rfl _ _ 22 22 rfl (w.heap.size + 2) 3 3 i0 (.int .i64 0) 1 8 Tryz.underlying22 Tryz.underlying22 hi0 hz0 hz1 hz2 rfl (by decide) (.slice ya q yc) q _ rfl HO4.out (some ⟨_, 0, none⟩) 1 1 [.int .i64 (kk : Int)] rfl rfl (fun _ => ⟨_, rfl, World.news_of_block HN4.out⟩) (by intro u hu; simp at hu; subst hu; rfl) (by omega) (by unfold maxLen; omega) (by omega) (by simp; omega) ?_; intro p8 cap8 w8 hown8 hg8 hat8 hlt8; have HG8 := hid hg8; have HOWN8 := hid hown8; clear hown8 hg8 hat8)
      have hgs := HG8.out.size
      go_wp2
      go_roundg (gk - 1)
      case rel =>
       refine ⟨q + 1, by go_num, by rw [HP2.out], by omega, by simp at hgs; omega, hid (HB4.out.grown HG8.out (by simp; omega) (fun k hk => by have := (HO.out.lt k hk).1; omega)), hid (HX4.out.grown HG8.out (fun e => by have := (HO.out.lt _ e.symm).1; omega)), hid ?_, HA2⟩
       rw [HSNq.out, show iv ((fromL a b).take q ++ [kk]) = iv ((fromL a b).take q) ++ [.int .i64 (kk : Int)] by simp [iv]]
       exact HOWN8.out
      case measure => omega
  ·obtain rfl : gk = 0 := by omega
   obtain rfl : q = Lb := by omega
   have hpj := HHV.out HALL.out
   have hown := HO.out
   rw [List.take_of_length_le (by rw [HFL.out]; omega)] at hown
   have HOW := hid hown
   clear hown HPN HSN HMI
   cases hpl : plainTo a b q with
   | true =>
    rw [hpl, if_pos rfl] at hpj
    have HPJ := hid hpj
    clear hpj hpl
    go_wp2
    refine bodyPost_ret (v := .tuple #[.slice none 0 0, .bool true]) (by simp [results, Tryz.results102, go_sem]) rfl ?_
    unfold ProjP
    rw [HPJ.out]
    exact ⟨_, rfl, RdPo.nil, HB.out⟩
   | false =>
    rw [hpl, if_neg (by simp)] at hpj
    have HPJ := hid hpj
    have HKS : Hid (RdKs (wr.alloc (.cells #[.int .i64 3, .int .i64 0, .string ⟨#[]⟩, .slice ya q yc] 122)) (News w (wr.alloc (.cells #[.int .i64 3, .int .i64 0, .string ⟨#[]⟩, .slice ya q yc] 122))) (.slice ya q yc) (opProj (fromL a b)).cols) := hid (by
     have h1 := HOW.out
     rw [← HFL.out] at h1
     have h2 := ks_own h1
     rw [HFL.out] at h2
     exact InK.more (InK.keep h2 fun p hp => World.cell?_alloc_lt _ _ _ hp.2) fun b hb => ⟨by have := hb.1; omega, by have := hb.2; simp; omega⟩)
    have HN5 := hid (BoxN.new wr #[.int .i64 3, .int .i64 0, .string ⟨#[]⟩, .slice ya q yc] 122)
    have HB5 := hid (HB.out.alloc (by omega) (.cells #[.int .i64 3, .int .i64 0, .string ⟨#[]⟩, .slice ya q yc] 122))
    clear hpj hpl
    go_wp2
    refine bodyPost_ret (v := .tuple #[.slice (some ⟨wr.heap.size, 0, none⟩) 1 1, .bool true]) (by simp [results, Tryz.results102, go_sem]) rfl ?_
    unfold ProjP
    rw [HPJ.out]
    exact ⟨_, rfl, rdPo_one (o := opProj (fromL a b)) HN5.out HKS.out ⟨by omega, by simp⟩, HB5.out⟩
end Go.Proofs.YtaajpliifdlokaaGreatDoor

namespace Go.Proofs.YtaajpliifdlokaaGreatDoor
open Go.Lib
theorem sl_lt (a b : ByteArray) : sl a b = decide (a.toList < b.toList) := by unfold sl; exact bytesLess_eq _ _
theorem put1_mem_iff {xs : List ByteArray} {s x : ByteArray} : x ∈ put1 xs s ↔ x = s ∨ x ∈ xs := by
  refine ⟨put1_mem, fun h => ?_⟩
  have hk := before_le s xs
  unfold put1
  simp only
  split
  · rw [List.mem_append, List.mem_cons]
    rcases h with rfl | h
    · exact .inr (.inl rfl)
    · rw [← List.take_append_drop (before s xs) xs, List.mem_append] at h
      rcases h with h | h
      · exact .inl h
      · exact .inr (.inr h)
  · rename_i hc
    rcases h with rfl | h
    · have h1 : before x xs ≠ xs.length := fun e => hc (.inl e)
      have h2 : xs.getD (before x xs) ⟨#[]⟩ = x := by
        apply Classical.byContradiction
        exact fun e => hc (.inr e)
      have h3 : before x xs < xs.length := by omega
      rw [List.getD, List.getElem?_eq_getElem h3] at h2
      simp at h2
      rw [← h2]
      exact List.getElem_mem _
    · exact h
theorem foldl_put1_mem (l : List ByteArray) : ∀ (acc : List ByteArray) (x : ByteArray), x ∈ l.foldl put1 acc ↔ x ∈ acc ∨ x ∈ l := by
  induction l with
  | nil => simp
  | cons a l ih =>
    intro acc x
    rw [List.foldl_cons, ih, put1_mem_iff, List.mem_cons]
    constructor
    · rintro ((h | h) | h)
      · exact .inr (.inl h)
      · exact .inl h
      · exact .inr (.inr h)
    · rintro (h | h | h)
      · exact .inl (.inr h)
      · exact .inl (.inl h)
      · exact .inr h
theorem setOfL_mem_iff (l : List ByteArray) (x : ByteArray) : x ∈ setOfL l ↔ x ∈ l := by
  unfold setOfL
  rw [foldl_put1_mem]
  simp
def bytesOf (l : List UInt8) : ByteArray := ⟨l.toArray⟩
def listOf (a : ByteArray) : List UInt8 := a.data.toList
end Go.Proofs.YtaajpliifdlokaaGreatDoor
