/- Contract of (*bounded.search).next. Contract of slices.BinarySearch at texts. Contracts of slices.BinarySearch: where a text is found; at numbers. The walk of PostingSizes, given its sanity check. Contract of posting.Valid at the index of columns in order. -/
import Derived.Deep.RegionHeld3
import Derived.Test.YtikiimlmoalbcaaGreatDoorCoFau
import Derived.Test.YtikiimlmoalbcaaGreatDoorCoFan
import Derived.Deep.Cut
import Derived.Deep.CutRange
import Derived.Deep.DeepCutAuto
import Derived.Test.YtikiimlmoalbcaaGreatDoorCoFar
set_option linter.unusedVariables false
set_option linter.unusedSimpArgs false
namespace Go.Proofs.YtikiimlmoalbcaaGreatDoor
open Go.RowKit
def incL (lows L : List Nat) (ys : List Nat) : Prop := ys.length = lows.length ∧ ∀ j, j < lows.length → ys.getD j 0 = lows.getD j 0 + L.count j
theorem incL.start (lows : List Nat) : incL lows [] lows := ⟨rfl, fun j _ => by simp⟩
theorem incL.step {lows L ys : List Nat} (h : incL lows L ys) {c : Nat} (hc : c < lows.length) : incL lows (L ++ [c]) (ys.set c (ys.getD c 0 + 1)) := by
  refine ⟨by rw [List.length_set]; exact h.1, fun j hj => ?_⟩
  have h1 := h.2 j hj
  rw [List.count_append, List.count_singleton]
  by_cases e : c = j
  · subst e
    have hl : c < ys.length := by rw [h.1]; exact hc
    have e2 : (ys.set c (ys.getD c 0 + 1)).getD c 0 = ys.getD c 0 + 1 := by simp [List.getD, hl]
    rw [e2, h1]
    simp
    omega
  · have e2 : (ys.set c (ys.getD c 0 + 1)).getD j 0 = ys.getD j 0 := by simp [List.getD, List.getElem?_set, e]
    rw [e2, h1]
    simp [e]
theorem RowI.put {w : World} {base b cap n : Nat} {xs : List Nat} (h : RowI w base b cap n xs) {i v : Nat} : RowI (w.setCell ⟨b, i, none⟩ (.int .i64 (v : Int))) base b cap n (xs.set i v) := by
  have h1 := (h.2.stored i (.int .i64 (v : Int))).1
  refine ⟨by rw [List.length_set]; exact h.1, ?_⟩
  have e : (natsV xs).set i (.int .i64 (v : Int)) = natsV (xs.set i v) := by simp [natsV, List.map_set]
  rw [e] at h1
  exact h1
theorem RowI.same {w w' : World} {base b cap n : Nat} {xs : List Nat} (h : RowI w base b cap n xs) (e : w'.heap[b]? = w.heap[b]?) : RowI w' base b cap n xs := by
  obtain ⟨h0, hl, h1⟩ := h
  refine ⟨h0, hl, ?_⟩
  rcases h1 with ⟨e1, -⟩ | ⟨g, cap', cur, e1, h2, h3, h4⟩
  · exact absurd e1 (by simp)
  · obtain ⟨e2, -, -⟩ := Value.slice.inj e1
    have e3 : b = g := by simpa using e2
    subst e3
    exact .inr ⟨b, cap', cur, e1, h2, e.trans h3, h4⟩
def NextP (w : World) (sb lb base cap E : Nat) (ev vv lv qv ls fv : Value) (r m : Nat) (lows L : List Nat) (e : Ending) (w' : World) : Prop :=
  (r < m → e = .returned (.bool true) ∧ ∃ ys, incL lows L ys ∧ RowI w' base lb cap E ys ∧ SrcBox w' sb ev vv lv qv ls (r + 1) (.slice (some ⟨lb, 0, none⟩) E cap) fv ∧ (∀ k, k < w.heap.size → k ≠ sb → k ≠ lb → w'.heap[k]? = w.heap[k]?) ∧ w.heap.size ≤ w'.heap.size ∧ w'.os = w.os ∧ w'.tape = w.tape ∧ w'.output = w.output) ∧
  (¬ r < m → e = .returned (.bool false) ∧ Below w.heap.size w w')
set_option maxRecDepth 100000 in
set_option maxHeartbeats 8000000 in
theorem src_next (ev vv qv fv : Value) (la xa : Option Addr) (NL lc m xc r E lb sb base cap : Nat) (ix : Ix) (lows pl : List Nat) (S : Nat → Prop) (w : World) (hx : RdIx w S ev vv (.slice la NL lc) ix) (hp : InN w S (.slice xa m xc) pl) (hS : ∀ k, S k → k < w.heap.size ∧ k ≠ sb ∧ k ≠ lb)
  (hb : SrcBox w sb ev vv (.slice la NL lc) qv (.slice xa m xc) r (.slice (some ⟨lb, 0, none⟩) E cap) fv) (hl : RowI w base lb cap E lows) (hsl : sb ≠ lb) (hr : r ≤ m) (hpl : ∀ j, j < m → pl.getD j 0 < NL) (hNL : ix.lists.length = NL) (hpm : pl.length = m)
  (hin : ∀ L ∈ ix.lists, ∀ c ∈ L, c < E) (hbig : ∀ j, lows.getD j 0 ≤ 1048576) (hLl : ∀ L ∈ ix.lists, L.length ≤ 1048576) (hm : m ≤ 1048576) (hEb : E ≤ 1048576) :
  Calls Tryz.prog 158 #[.pointer (some ⟨sb, 0, none⟩)] w (NextP w sb lb base cap E ev vv (.slice la NL lc) qv (.slice xa m xc) fv r m lows (ix.lists.getD (pl.getD r 0) [])) := by
 have b2 := BoxN.cell hb 2 rfl
 have b4 := BoxN.cell hb 4 rfl
 have b5 := BoxN.cell hb 5 rfl
 have b6 := BoxN.cell hb 6 rfl
 have f5 := BoxN.frozen hb 5
 by_cases hrm : r < m
 ·obtain ⟨-, -, lf, ⟨la', lc', e9, hlc, hlm, hlr⟩, hkids⟩ := hx
  obtain ⟨rfl, -, rfl⟩ := Value.slice.inj e9
  obtain ⟨xa', xc', e8, hxc, hxm, hpr⟩ := hp
  obtain ⟨rfl, -, rfl⟩ := Value.slice.inj e8
  have hxN := hpl r hrm
  obtain ⟨b, o, rfl, hbS, hcell⟩ := hlr (by omega)
  obtain ⟨pb, po, rfl, hpS, hpcell⟩ := hpr (by omega)
  have k0 : w.cell? ⟨b, o + pl.getD r 0, none⟩ = some (lf (pl.getD r 0)) := by have h := hcell (pl.getD r 0) (by omega) 0 (by omega); simpa using h
  have k1 : w.cell? ⟨pb, po + r, none⟩ = some (.int .i64 ((pl.getD r 0 : Nat) : Int)) := by
   have h := hpcell r (by omega) 0 (by omega)
   simpa [natF] using h
  obtain ⟨a1, d1, e1, hd1, hdm, hrow⟩ := hkids (pl.getD r 0) (by omega)
  have hLm : ix.lists.getD (pl.getD r 0) [] ∈ ix.lists := by
   have h1 : pl.getD r 0 < ix.lists.length := by omega
   have h2 : ix.lists.getD (pl.getD r 0) [] = ix.lists[pl.getD r 0] := (List.getElem_eq_getD _).symm
   rw [h2]
   exact List.getElem_mem _
  have hLc := hin _ hLm
  have hLz := hLl _ hLm
  rw [e1] at k0
  generalize ix.lists.getD (pl.getD r 0) [] = L at *
  generalize pl.getD r 0 = x at *
  have hlows : lows.length = E := hl.1
  have hbox := hid hb
  have HL0 := hid hl
  have HROW := hid (fun (hpz : 0 < L.length) => (by
   obtain ⟨gb, go, ea, hgS, hg⟩ := hrow hpz
   exact ⟨gb, go, ea, (hS gb hgS).1, (hS gb hgS).2.2, fun i hi => by have h := hg i hi 0 (by omega); simpa [natF] using h⟩ : ∃ gb go, a1 = some ⟨gb, go, none⟩ ∧ gb < w.heap.size ∧ gb ≠ lb ∧ ∀ i, i < L.length → w.cell? ⟨gb, go + i, none⟩ = some (.int .i64 ((L.getD i 0 : Nat) : Int))))
  have HLC := hid hLc
  have HBG := hid hbig
  have hsz := BoxN.lt hb
  obtain ⟨len, hlen⟩ : ∃ len, len = L.length := ⟨_, rfl⟩
  rw [← hlen] at hd1 hLz
  rw [← hlen] at k0
  clear hcell hlr hpcell hpr hkids hrow hin hLl hbig hpl e1 e8 e9 hb hl hLm hLc hbS hpS hS
  rw [hNL] at hlc
  rw [hpm] at hxc
  clear hNL hpm
  unfold maxLen at *
  have heq : ((r : Int) == (m : Int)) = false := by
   have h : (r : Int) ≠ (m : Int) := by omega
   simpa using h
  have hri : (r : Int) < (m : Int) := by omega
  have hr0 : (0 : Int) ≤ (r : Int) := by omega
  have hxi : (x : Int) < (NL : Int) := by omega
  have hx0 : (0 : Int) ≤ (x : Int) := by omega
  have HBz : ∀ W, Below w.heap.size w W → Hid (BarZ w lb W) := fun W h => hid ((BarZ.refl w lb).quiet h)
  have HLz : ∀ W, Below w.heap.size w W → Hid (RowI W base lb cap E lows) := fun W h => hid (HL0.out.later h)
  clear HL0
  go_enter Tryz.func158, Tryz.ntmps158
  generalize hLA : Code.loop _ = LA
  go_wp2_with fail
  go_quiet (fail)
  go_wp2
  go_quiet (fail)
  clear b2 b4 b5 b6 f5 k0 k1
  subst hLA
  go_wp2_with fail
  go_loopg [33, 4] len (fun K i c wr => ∃ (q : Nat) (ys : List Nat), i = .int .i64 (q : Int) ∧ q + K = len ∧ Hid (incL lows (L.take q) ys) ∧ Hid (RowI wr base lb cap E ys) ∧ Hid (BarZ w lb wr))
  case atStart => exact ⟨0, lows, rfl, by omega, hid (incL.start lows), HLz _ ⟨rfl, rfl, rfl, Nat.le_refl _, fun _ _ => rfl⟩, HBz _ ⟨rfl, rfl, rfl, Nat.le_refl _, fun _ _ => rfl⟩⟩
  case round =>
   obtain ⟨q, ys, rfl, hq, HI, HR, HB⟩ := hrel
   clear HLz HBz
   have hX : SrcBox wr sb ev vv (.slice (some ⟨b, o, none⟩) NL lc) qv (.slice (some ⟨pb, po, none⟩) m xc) r (.slice (some ⟨lb, 0, none⟩) E cap) fv := (HB.out.block sb hsz hsl).trans hbox.out
   by_cases hp : 0 < gk
   ·obtain ⟨gb, go, rfl, hgl, hgn, hg⟩ := HROW.out (by omega)
    have hqL : q < L.length := by omega
    have hqi : (q : Int) < (len : Int) := by omega
    have c6 := BoxN.cell hX 6 rfl
    have k2 := (HB.out.cell (p := ⟨gb, go + q, none⟩) hgl hgn).trans (hg q hqL)
    have hgd : L.getD q 0 = L[q] := by simp [List.getD, hqL]
    have hcE : L.getD q 0 < E := by rw [hgd]; exact HLC.out _ (List.getElem_mem _)
    have htk : L.take (q + 1) = L.take q ++ [L.getD q 0] := by rw [hgd, List.take_succ_eq_append_getElem hqL]
    have HI1 := hid (HI.out.step (c := L.getD q 0) (by omega))
    rw [← htk] at HI1
    have hv : ys.getD (L.getD q 0) 0 ≤ 2097152 := by
     have h1 := HI.out.2 (L.getD q 0) (by omega)
     have h2 := HBG.out (L.getD q 0)
     have h3 : (L.take q).count (L.getD q 0) ≤ (L.take q).length := List.count_le_length
     rw [List.length_take] at h3
     omega
    generalize L.getD q 0 = c at *
    have k3 := HR.out.at hcE
    have f3 := HR.out.2.frozenAt c
    have HS1 : Hid (RowI (wr.setCell ⟨lb, c, none⟩ (.int .i64 ((ys.getD c 0 : Nat) + 1 : Int))) base lb cap E (ys.set c (ys.getD c 0 + 1))) := hid (RowI.put  (v := ys.getD c 0 + 1) HR.out)
    have HB1 : Hid (BarZ w lb (wr.setCell ⟨lb, c, none⟩ (.int .i64 ((ys.getD c 0 : Nat) + 1 : Int)))) := hid (HB.out.grown ⟨rfl, rfl, rfl, by simp, fun k _ hk => Below.heap_setCell _ _ _ _ (fun e => hk (by rw [e]))⟩)
    generalize ys.set c (ys.getD c 0 + 1) = zs at *
    generalize ys.getD c 0 = v at *
    have hci : (c : Int) < (E : Int) := by omega
    have hc0 : (0 : Int) ≤ (c : Int) := by omega
    clear HI HR HB hX hg htk hgd hqL
    go_wp2_with fail
    go_roundg (gk - 1)
    case rel => exact ⟨q + 1, zs, by go_num, by omega, HI1, HS1, HB1⟩
    case measure => omega
   ·obtain rfl : gk = 0 := by omega
    obtain rfl : q = len := by omega
    rw [hlen, List.take_length] at HI
    have c5 := BoxN.cell hX 5 rfl
    have f5 := BoxN.frozen hX 5
    have hrr : (r : Int) + 1 = ((r + 1 : Nat) : Int) := by omega
    have HX2 : Hid (SrcBox (wr.setCell ⟨sb, 5, none⟩ (.int .i64 ((r : Int) + 1))) sb ev vv (.slice (some ⟨b, o, none⟩) NL lc) qv (.slice (some ⟨pb, po, none⟩) m xc) (r + 1) (.slice (some ⟨lb, 0, none⟩) E cap) fv) := hid (by rw [hrr]; exact BoxN.set hX 5 _)
    have HR2 : Hid (RowI (wr.setCell ⟨sb, 5, none⟩ (.int .i64 ((r : Int) + 1))) base lb cap E ys) := hid (HR.out.same (Below.heap_setCell _ _ _ _ (Ne.symm hsl)))
    have HF : Hid (NextP w sb lb base cap E ev vv (.slice (some ⟨b, o, none⟩) NL lc) qv (.slice (some ⟨pb, po, none⟩) m xc) fv r m lows L (.returned (.bool true)) (wr.setCell ⟨sb, 5, none⟩ (.int .i64 ((r : Int) + 1)))) := hid ⟨fun _ => ⟨rfl, ys, HI.out, HR2.out, HX2.out, fun k hk h1 h2 => (Below.heap_setCell _ _ _ _ h1).trans (HB.out.block k hk h2), by have h := HB.out.size; simpa using h, HB.out.os, HB.out.tape, HB.out.output⟩, fun h => absurd hrm h⟩
    clear HX2 HR2 HI HR HB hX
    have hrb : r ≤ 1048576 := by omega
    clear hrr
    go_wp2
    go_ret
    exact HF.out
 ·obtain rfl : r = m := by omega
  have heq : ((r : Int) == (r : Int)) = true := by simp
  have HB := hid (fun nq => (⟨rfl, rfl, rfl, Nat.le_refl _, fun _ _ => rfl⟩ : Below w.heap.size w (w.drewN nq)))
  have HSX := hid hb
  clear hx hp hS hb hl hsl hpl hNL hpm hin hbig hLl
  go_enter Tryz.func158, Tryz.ntmps158
  generalize hLA : Code.loop _ = LA
  go_wp2_with fail
  go_quiet (fail)
  go_wp2
  go_ret
  exact ⟨fun h => by omega, fun _ => ⟨rfl, HB.out _⟩⟩
end Go.Proofs.YtikiimlmoalbcaaGreatDoor

namespace Go.Proofs.YtikiimlmoalbcaaGreatDoor
open Go.RowKit
set_option maxHeartbeats 400000 in
theorem lib_isNaNS (s : ByteArray) (w : World) : Calls Tryz.prog 132 #[.string s] w (fun e w' => e = .returned (.bool false) ∧ w' = w) := by
  go_enter Tryz.func132, Tryz.ntmps132
  go_wp2
  go_ret
  exact ⟨by simp, rfl⟩
set_option maxHeartbeats 400000 in
theorem cmp_isNaN (s : ByteArray) (w : World) : Calls Tryz.prog 172 #[.string s] w (fun e w' => e = .returned (.bool false) ∧ w' = w) := by
  go_enter Tryz.func172, Tryz.ntmps172
  go_wp2
  go_ret
  exact ⟨by simp, rfl⟩
set_option maxHeartbeats 400000 in
theorem cmp_Less (s t : ByteArray) (w : World) : Calls Tryz.prog 131 #[.string s, .string t] w (fun e w' => e = .returned (.bool (sl s t)) ∧ w' = w) := by
  have hs : Op.bytesLess s.toList t.toList = sl s t := rfl
  generalize sl s t = F at *
  go_enter Tryz.func131, Tryz.ntmps131
  go_wp2_with fail
  with_reducible refine (cmp_isNaN _ _).mono ?_
  rintro e w1 ⟨rfl, rfl⟩
  go_wp2
  go_ret
  exact ⟨rfl, rfl⟩
def BinP (w : World) (F : Bool) (e : Ending) (w' : World) : Prop := ∃ p : Int, e = .returned (.tuple #[.int .i64 p, .bool F]) ∧ w' = w
theorem asc_lt {ys : List ByteArray} (h : Asc ys) {i j : Nat} (hij : i < j) (hj : j < ys.length) : sl (ys.getD i ⟨#[]⟩) (ys.getD j ⟨#[]⟩) = true := by
  have := List.pairwise_iff_getElem.1 h i j (by omega) hj hij
  simpa [List.getD, hj, show i < ys.length by omega] using this
theorem bin_found {ys : List ByteArray} {s : ByteArray} {a : Nat} (ha : a < ys.length) (h : ys.getD a ⟨#[]⟩ = s) : hasL ys s = true := (hasL_iff ys s).2 ((mem_getD ys s).2 ⟨a, ha, h⟩)
theorem bin_not {ys : List ByteArray} {s : ByteArray} (h : Asc ys) {a : Nat} (h1 : ∀ p, p < a → sl (ys.getD p ⟨#[]⟩) s = true) (h2 : a < ys.length → ys.getD a ⟨#[]⟩ ≠ s ∧ sl (ys.getD a ⟨#[]⟩) s = false) : hasL ys s = false := by
  cases hF : hasL ys s
  · rfl
  · obtain ⟨p, hp, e⟩ := (mem_getD ys s).1 ((hasL_iff ys s).1 hF)
    rcases Nat.lt_trichotomy p a with hlt | heq | hgt
    · have := h1 p hlt
      rw [e, sl_irrefl] at this
      cases this
    · subst heq
      exact absurd e (h2 hp).1
    · have h3 := asc_lt h hgt hp
      rw [e, (h2 (by omega)).2] at h3
      cases h3
end Go.Proofs.YtikiimlmoalbcaaGreatDoor

namespace Go.Proofs.YtikiimlmoalbcaaGreatDoor
open Go.RowKit
def BinQ (w : World) (ys : List ByteArray) (s : ByteArray) (F : Bool) (e : Ending) (w' : World) : Prop :=
  ∃ p : Int, e = .returned (.tuple #[.int .i64 p, .bool F]) ∧ w' = w ∧ (F = true → ∃ n : Nat, p = (n : Int) ∧ n < ys.length ∧ ys.getD n ⟨#[]⟩ = s)
set_option maxHeartbeats 2000000 in
theorem lib_BinAt (v : Value) (ys : List ByteArray) (s : ByteArray) (B : Nat) (w : World) (hv : RdS w B v ys) (hasc : Asc ys) (hlen : ys.length ≤ 1099511627776) :
  Calls Tryz.prog 69 #[v, .string s] w (BinQ w ys s (hasL ys s)) := by
 obtain ⟨a, c, rfl, hc, hm, hx⟩ := hv
 have HF := hid (fun a h1 h2 => @bin_found ys s a h1 h2)
 have HN := hid (fun a h1 h2 => @bin_not ys s hasc a h1 h2)
 have HA := hid (fun i j h1 h2 => @asc_lt ys hasc i j h1 h2)
 generalize hasL ys s = F at *
 generalize hn : ys.length = n at *
 have HNL := hid hn
 have HX := hid hx
 clear hn hx
 unfold maxLen at hm
 go_enter Tryz.func69, Tryz.ntmps69
 go_wp2
 go_loopw [7, 8] (fun i j w' => ∃ p q : Nat, i = .int .i64 (p : Int) ∧ j = .int .i64 (q : Int) ∧ p ≤ q ∧ q ≤ n ∧ Hid (∀ x, x < p → sl (ys.getD x ⟨#[]⟩) s = true) ∧ Hid (q < n → sl (ys.getD q ⟨#[]⟩) s = false) ∧ w' = w) (fun i j _ => (intOf j).toNat - (intOf i).toNat)
 case atStart => exact ⟨0, n, rfl, rfl, by omega, by omega, hid (fun x h => absurd h (by omega)), hid (fun h => absurd h (by omega)), rfl⟩
 case round =>
  obtain ⟨p, q, rfl, rfl, hpq, hq, hlo, hhi, rfl⟩ := hrel
  by_cases hlt : p < q
  ·obtain ⟨b, o, rfl, hb, hcell⟩ := HX.out (by omega)
   have hmn : (p + q) / 2 < n := by omega
   have h1 : wr.cell? ⟨b, o + (p + q) / 2, none⟩ = some (.string (ys.getD ((p + q) / 2) ⟨#[]⟩)) := hcell _ hmn
   have HUP : Hid (sl (ys.getD ((p + q) / 2) ⟨#[]⟩) s = true → ∀ x, x < (p + q) / 2 + 1 → sl (ys.getD x ⟨#[]⟩) s = true) := hid (fun h x hx => by
    rcases Nat.lt_or_ge x ((p + q) / 2) with h3 | h3
    ·exact sl_trans (HA.out _ _ h3 hmn) h
    ·obtain rfl : x = (p + q) / 2 := by omega
     exact h)
   have HDN : Hid (sl (ys.getD ((p + q) / 2) ⟨#[]⟩) s = false → (p + q) / 2 < n → sl (ys.getD ((p + q) / 2) ⟨#[]⟩) s = false) := hid (fun h _ => h)
   clear hcell
   generalize hX : ys.getD ((p + q) / 2) ⟨#[]⟩ = x at h1 HUP
   go_wp2_with fail
   with_reducible refine (cmp_Less x s _).mono ?_
   rintro e w1 ⟨rfl, rfl⟩
   cases hs : sl x s
   ·have HS := hid (HDN.out (by rw [hX]; exact hs))
    clear HUP HDN hX
    go_wp2
    go_roundw
    case rel => exact ⟨p, (p + q) / 2, rfl, by go_num, by omega, by omega, hlo, HS, by first | rfl | trivial⟩
    case measure => simp [intOf]; omega
   ·have HS := hid (HUP.out hs)
    clear HUP HDN hX
    go_wp2
    go_roundw
    case rel => exact ⟨(p + q) / 2 + 1, q, by go_num, rfl, by omega, by omega, HS, hhi, by first | rfl | trivial⟩
    case measure => simp [intOf]; omega
  ·obtain rfl : p = q := by omega
   by_cases hpn : p < n
   ·obtain ⟨b, o, rfl, hb, hcell⟩ := HX.out (by omega)
    have h1 : wr.cell? ⟨b, o + p, none⟩ = some (.string (ys.getD p ⟨#[]⟩)) := hcell p hpn
    have HY := hid (HF.out p hpn)
    have HNO := hid (fun h => HN.out p hlo.out (fun _ => ⟨h, hhi.out hpn⟩))
    clear hcell
    have HXE : Hid (ys.getD p ⟨#[]⟩ = ys.getD p ⟨#[]⟩) := hid rfl
    obtain ⟨x, hxe⟩ : ∃ x, x = ys.getD p ⟨#[]⟩ := ⟨_, rfl⟩
    have HXV := hid hxe.symm
    rw [← hxe] at h1 HY HNO
    clear HXE hxe
    by_cases he : x = s
    ·subst he
     have hF : F = true := HY.out rfl
     subst hF
     go_wp2
     go_ret2
     exact ⟨_, rfl, rfl, fun _ => ⟨p, rfl, by rw [HNL.out]; exact hpn, HXV.out⟩⟩
    ·have hne : (x.toList == s.toList) = false := by
      cases h : (x.toList == s.toList)
      ·rfl
      ·exact absurd (bytes_ext (by simpa using h)) he
     have hF : F = false := HNO.out he
     subst hF
     go_wp2_with fail
     with_reducible refine (lib_isNaNS _ _).mono ?_
     rintro e w1 ⟨rfl, rfl⟩
     go_wp2
     go_ret2
     exact ⟨_, rfl, rfl, fun h => by cases h⟩
   ·have hF : F = false := HN.out p hlo.out (fun h => absurd h hpn)
    subst hF
    go_wp2
    go_ret2
    exact ⟨_, rfl, rfl, fun h => by cases h⟩
end Go.Proofs.YtikiimlmoalbcaaGreatDoor

namespace Go.Proofs.YtikiimlmoalbcaaGreatDoor
open Go.RowKit
theorem made_int_row (n : Nat) (h : n ≤ 1099511627776) (w : World) :
    (Instr.makeSlice 34 (.int .i64 (n : Int)) (.int .i64 (n : Int))).run Tryz.prog w = .ok (.slice (some ⟨w.heap.size, 0, none⟩) n n) (w.alloc (.cells (madeCells #[.int .i64 0] n) 3)) :=
  run_make_row' (P := Tryz.prog) 34 3 (.int .i64 0) 8 Tryz.underlying34 info_int' rfl .i64 .i64 n (by omega) (by omega) w
theorem InN.rdn {w : World} {S : Nat → Prop} {v : Value} {xs : List Nat} {B : Nat} (h : InN w S v xs) (hS : ∀ b, S b → b < B) : Rd w B v xs.length (natF xs) := InK.rd h hS
def doneC (L M P : List Nat) (q j : Nat) : Nat := ([L, M, P].take q).flatten.count j
def partX (L M P : List Nat) (q : Nat) : List Nat := [L, M, P].getD q []
def inB (xs : List Nat) (i : Nat) : Bool := decide (i ∈ xs)
structure PartOk (wc : World) (pa : Option Addr) (pc n : Nat) (X : List Nat) : Prop where
  rd : Rd wc wc.heap.size (.slice pa X.length pc) X.length (natF X)
  lt : ∀ i, i < X.length → X.getD i 0 < n
  up : ∀ i, i + 1 < X.length → X.getD i 0 < X.getD (i + 1) 0
  le : X.length ≤ n
end Go.Proofs.YtikiimlmoalbcaaGreatDoor

namespace Go.Proofs.YtikiimlmoalbcaaGreatDoor
open Go.RowKit
set_option maxRecDepth 100000 in
set_option maxHeartbeats 4000000 in
theorem posting_Valid (cs : List Cv) (hok : CvsOk cs) (ev vv lv : Value) (B : Nat) (w : World) (hx : RdIx w (· < B) ev vv lv (indexOf cs)) (hB : B ≤ w.heap.size) :
  Calls Tryz.prog 102 #[.agg #[ev, vv, lv]] w (Ret w (.bool true)) := by
 obtain ⟨hE, hV, lf, ⟨la, lc, rfl, hlc, hlm, hlr⟩, hkids⟩ := hx
 obtain ⟨ea, ec, rfl, hec, hem, her⟩ := hE
 have HIS := hid (fun W (hW : Below w.heap.size w W) => text_IsSet vv (setOfL (allOf cs)) B W (Rd.below (InS.rds hV fun b h => h) hW hB))
 rw [Asc.isSet (setOfL_asc (allOf cs))] at HIS
 obtain ⟨va, vc, rfl, hvc, hvm, hvr⟩ := hV
 have hll : (indexOf cs).lists.length = (setOfL (allOf cs)).length := by simp [indexOf]
 have hel : (indexOf cs).ents.length = cs.length := ents_len cs
 have hvl : (indexOf cs).vals.length = (setOfL (allOf cs)).length := rfl
 have hvals : (setOfL (allOf cs)).length ≤ 268435456 := by
  have h1 := setOfL_len (allOf cs)
  have h2 := all_len (m := 4096) hok.len
  have h3 := hok.many
  have h4 : cs.length * 4096 ≤ 65536 * 4096 := Nat.mul_le_mul_right _ h3
  omega
 have HLR : Hid (∀ q, q < (setOfL (allOf cs)).length → ∃ (xa : Option Addr) (xc : Nat), (∀ W, Below w.heap.size w W → ∃ b o, la = some ⟨b, o, none⟩ ∧ W.cell? ⟨b, o + q, none⟩ = some (.slice xa (listOfV cs ((setOfL (allOf cs)).getD q ⟨#[]⟩)).length xc)) ∧ Rd w B (.slice xa (listOfV cs ((setOfL (allOf cs)).getD q ⟨#[]⟩)).length xc) (listOfV cs ((setOfL (allOf cs)).getD q ⟨#[]⟩)).length (natF (listOfV cs ((setOfL (allOf cs)).getD q ⟨#[]⟩)))) := hid (fun q hq => by
  have h1 := hkids q (by omega)
  have e1 : (indexOf cs).lists.getD q [] = listOfV cs ((setOfL (allOf cs)).getD q ⟨#[]⟩) := by simp [indexOf, List.getD, hq]
  rw [e1] at h1
  have h2 := h1.rdn fun b h => h
  obtain ⟨xa, xc, e2, -⟩ := h1
  rw [e2] at h2
  refine ⟨xa, xc, fun W hW => ?_, h2⟩
  obtain ⟨b, o, e3, hb, hc⟩ := hlr (by omega)
  have hb' : b < B := hb
  refine ⟨b, o, e3, (hW.cell (p := ⟨b, o + q, none⟩) (by show b < _; omega)).trans ?_⟩
  have h4 := hc q (by omega) 0 (by omega)
  simp only [Nat.mul_one, Nat.add_zero] at h4
  rw [h4, e2])
 rw [hll] at hlc
 rw [hel] at hec her
 rw [hvl] at hvc HIS
 have HER : Hid (∀ i, i < cs.length → ∃ b o, ea = some ⟨b, o, none⟩ ∧ b < B ∧ w.cell? ⟨b, o + i * 3, none⟩ = some (.int .i64 (refZ (cs.getD i Cv.z)).1) ∧ w.cell? ⟨b, o + i * 3 + 1, none⟩ = some (.int .i64 (refZ (cs.getD i Cv.z)).2) ∧ w.cell? ⟨b, o + i * 3 + 2, none⟩ = some (.int .i64 ((cs.getD i Cv.z).2.length : Int))) := hid (fun i hi => by
  obtain ⟨b, o, e3, hb, hc⟩ := her (by omega)
  have e1 : (indexOf cs).ents.getD i ((0, 0), 0) = ((cs.getD i Cv.z).1, (cs.getD i Cv.z).2.length) := by simp [indexOf, entsOf, List.getD, hi]
  refine ⟨b, o, e3, hb, (hc i hi 0 (by omega)).trans ?_, (hc i hi 1 (by omega)).trans ?_, (hc i hi 2 (by omega)).trans ?_⟩
  ·simp only [entF, e1]; rfl
  ·simp only [entF, e1]; rfl
  ·simp only [entF, e1]; rfl)
 have HUP := hid (fun i (hi : i + 1 < cs.length) => (show rlt (refZ (cs.getD i Cv.z)) (refZ (cs.getD (i + 1) Cv.z)) = true from by
  have h1 := List.pairwise_iff_getElem.1 hok.up i (i + 1) (by omega) hi (by omega)
  simpa [List.getD, hi, show i < cs.length by omega] using h1))
 have HID := hid (fun i (hi : i < cs.length) => hok.ids _ (getD_mem hi Cv.z))
 have HLN := hid (fun i (hi : i < cs.length) => hok.len _ (getD_mem hi Cv.z))
 have HCN := hid (fun i (hi : i < cs.length) => cntV_all hok hi)
 have HCL := hid (fun vs j (hj : j < cs.length) => cntV_le cs vs j hj)
 have HSN := hid (cntV_snoc cs)
 have HPOS := hid (fun v (h : v ∈ setOfL (allOf cs)) => listOfV_pos h)
 have HLT := hid (fun v k => @listOfV_lt cs v k)
 have HLU := hid (fun v k => @listOfV_up cs v k)
 have HLL := hid (fun v => listOfV_len cs v)
 have hmany := hok.many
 clear hlr hkids her hvr hok hlm hem hvm
 rw [hll, hel, hvl]
 clear hll hel hvl
 generalize setOfL (allOf cs) = vs at *
 generalize hnn : cs.length = n at *
 have HN := hid hnn
 clear hnn
 generalize hnv : vs.length = nv at *
 have HNV := hid hnv
 clear hnv
 have hmk := made_int_row n (by omega)
 go_enter Tryz.func102, Tryz.ntmps102
 generalize hLA : Code.loop _ = LA
 generalize hLB : Code.loop _ = LB
 go_wp2_with fail
 have HX0 := hid (BoxN.new w #[.slice ea n ec, .slice va nv vc, .slice la nv lc] 30)
 have HB0 := hid ((Below.refl w.heap.size w).alloc (Nat.le_refl _) (.cells #[.slice ea n ec, .slice va nv vc, .slice la nv lc] 30))
 have hz0 : (w.alloc (.cells #[.slice ea n ec, .slice va nv vc, .slice la nv lc] 30)).heap.size = w.heap.size + 1 := by simp
 with_reducible refine (HIS.out _ HB0.out).mono ?_
 generalize w.alloc (.cells #[.slice ea n ec, .slice va nv vc, .slice la nv lc] 30) = W0 at *
 rintro e w1 ⟨rfl, k1, rfl⟩
 have HX1 := hid (HX0.out.drewN k1)
 have HB1 := hid (below_drewN (n := k1) HB0.out)
 have hz1 : (W0.drewN k1).heap.size = w.heap.size + 1 := hz0
 generalize W0.drewN k1 = W1 at *
 have x0 := HX1.out.cell 0 rfl
 have x2 := HX1.out.cell 2 rfl
 have HY := hid (HX1.out.alloc (.cells (madeCells #[.int .i64 0] n) 3))
 have y2 := HY.out.cell 2 rfl
 have HRO := hid (World.rowIs_made W1 (.int .i64 0) n 3)
 have HB2 := hid ((Below.refl W1.heap.size W1).alloc (Nat.le_refl _) (.cells (madeCells #[.int .i64 0] n) 3))
 have HZ1 := hid hz1
 clear hz1 hz0
 go_wp2_with fail
 clear x0 x2 y2 hmk
 have hz1l : w.heap.size + 1 ≤ W1.heap.size := by have := HZ1.out; omega
 generalize W1.alloc (.cells (madeCells #[.int .i64 0] n) 3) = W2 at *
 subst hLA
 go_loopg [30] nv (fun N i wr => ∃ q : Nat, q + N = nv ∧ i = .int .i64 (q : Int) ∧ Hid (Below W1.heap.size W1 wr ∧ BoxN wr w.heap.size 30 #[.slice ea n ec, .slice va nv vc, .slice la nv lc] ∧ wr.rowIs W1.heap.size 3 n (fun j => .int .i64 ((cntV cs (vs.take q) j : Nat) : Int))))
 case atStart => exact ⟨0, by omega, rfl, hid ⟨HB2.out, HY.out, HRO.out.congr fun j _ => by simp [cntV]⟩⟩
 case round =>
  obtain ⟨q, hq, rfl, HST⟩ := hrel
  by_cases hpq : 0 < gk
  ·obtain ⟨xa, xc, hcell, hrd⟩ := HLR.out q (by omega)
   obtain ⟨b, o, rfl, v0⟩ := hcell wr (HB1.out.trans (HST.out.1.mono (by omega)))
   have hvm : vs.getD q ⟨#[]⟩ ∈ vs := getD_mem (by have := HNV.out; omega) _
   have hpos := HPOS.out _ hvm
   have HLTQ := hid (HLT.out (vs.getD q ⟨#[]⟩))
   have HLUQ := hid (HLU.out (vs.getD q ⟨#[]⟩))
   have hll := HLL.out (vs.getD q ⟨#[]⟩)
   have HTK : Hid (∀ j, cntV cs (vs.take (q + 1)) j = cntV cs (vs.take q) j + (listOfV cs (vs.getD q ⟨#[]⟩)).count j) := hid (fun j => by
    have h1 : q < vs.length := by have := HNV.out; omega
    rw [List.take_succ_eq_append_getElem h1, HSN.out]
    simp [List.getD, h1])
   have HRD := hid hrd
   clear hcell hrd hvm
   generalize listOfV cs (vs.getD q ⟨#[]⟩) = X at *
   generalize hxl : X.length = xl at *
   have HXL := hid hxl
   clear hxl
   obtain ⟨wo, rfl⟩ : ∃ wo, wo = wr := ⟨wr, rfl⟩
   obtain ⟨ko, rfl⟩ : ∃ ko, ko = gk := ⟨gk, rfl⟩
   generalize hLC : Code.loop _ = LC
   go_wp2_with fail
   clear v0
   subst hLC
   go_loopg [36] xl (fun N i wr => ∃ k : Nat, k + N = xl ∧ i = .int .i64 (k : Int) ∧ Hid (Below W1.heap.size W1 wr ∧ BoxN wr w.heap.size 30 #[.slice ea n ec, .slice va nv vc, .slice (some ⟨b, o, none⟩) nv lc] ∧ wr.rowIs W1.heap.size 3 n (fun j => .int .i64 ((cntV cs (vs.take q) j + (X.take k).count j : Nat) : Int))))
   case atStart => exact ⟨0, by omega, rfl, hid ⟨HST.out.1, HST.out.2.1, HST.out.2.2.congr fun j _ => by simp⟩⟩
   case round =>
    obtain ⟨k, hk, rfl, HSK⟩ := hrel
    by_cases hpk : 0 < gk
    ·obtain ⟨pa', pc', epa, -, hpm, hpr⟩ := HRD.out
     obtain ⟨rfl, -, rfl⟩ := Value.slice.inj epa
     obtain ⟨b5, o5, rfl, hb5, hpc5⟩ := hpr (by omega)
     have hb5w : b5 < W1.heap.size := by omega
     have HBK := hid (HB1.out.trans (HSK.out.1.mono (by omega)))
     have hlt := HLTQ.out k (by have := HXL.out; omega)
     have e1 : wr.cell? ⟨b5, o5 + k, none⟩ = some (.int .i64 ((X.getD k 0 : Nat) : Int)) := (HBK.out.cell (p := ⟨b5, o5 + k, none⟩) (by show b5 < _; omega)).trans (hpc5 k (by omega))
     have r1 := HSK.out.2.2.cell hlt
     have fr := HSK.out.2.2.frozen (X.getD k 0)
     have HCT := hid (fun j => count_take X (k := k) (by have := HXL.out; omega) j)
     have hcl : cntV cs (vs.take q) (X.getD k 0) + (X.take k).count (X.getD k 0) ≤ 1099511627776 := by
      have h1 := HCL.out (vs.take q) (X.getD k 0) hlt
      have h2 := List.count_le_length (a := X.getD k 0) (l := X.take k)
      have h3 : (X.take k).length ≤ k := List.length_take_le _ _
      have h4 : (vs.take q).length ≤ q := List.length_take_le _ _
      omega
     clear epa hpr hpm
     generalize hcc : cntV cs (vs.take q) (X.getD k 0) + (X.take k).count (X.getD k 0) = cc at *
     have hpv : ∀ pp, k = pp + 1 → wr.cell? ⟨b5, o5 + pp, none⟩ = some (.int .i64 ((X.getD pp 0 : Nat) : Int)) ∧ X.getD pp 0 < X.getD k 0 := fun pp e => by
      subst e
      exact ⟨(HBK.out.cell (p := ⟨b5, o5 + pp, none⟩) (by show b5 < _; omega)).trans (hpc5 pp (by omega)), HLUQ.out pp (by have := HXL.out; omega)⟩
     have HPV := hid hpv
     clear hpc5 hpv
     generalize X.getD k 0 = x at *
     have HCC : Hid (cntV cs (vs.take q) x + (X.take k).count x = cc) := hid hcc
     clear hcc
     have hd0 : decide ((x : Int) < 0) = false := decide_eq_false (by omega)
     have hd1 : decide (n ≤ x) = false := decide_eq_false (by omega)
     have hd2 : decide ((n : Int) ≤ (x : Int)) = false := decide_eq_false (by omega)
     have hxi : (x : Int) < (n : Int) := by omega
     by_cases hk0 : k = 0
     ·subst hk0
      rw [show (((0 : Nat)) : Int) = 0 from rfl]
      simp only [Nat.add_zero] at e1
      have hnew : ∀ j, (if j = x then Value.int .i64 ((cc : Int) + 1) else .int .i64 ((cntV cs (vs.take q) j + (X.take 0).count j : Nat) : Int)) = .int .i64 ((cntV cs (vs.take q) j + (X.take (0 + 1)).count j : Nat) : Int) := fun j => by
       rw [HCT.out j]
       by_cases e : j = x
       ·subst e
        rw [if_pos rfl, if_pos rfl, ← Nat.add_assoc, HCC.out]
        rfl
       ·rw [if_neg e, if_neg (fun h => e h.symm)]
        rfl
      have HNW := hid hnew
      clear hnew
      go_wp2
      go_roundg (gk - 1)
      case rel => exact ⟨0 + 1, by omega, by go_num, hid ⟨by have := HSK.out.1; repeat' (first | (with_reducible exact Below.refl _ _) | (with_reducible assumption) | (with_reducible refine below_drewN ?_) | (with_reducible refine Below.alloc ?_ ?_ _) | (with_reducible refine Below.drew ?_) | (with_reducible refine Below.setCell ?_ ?_ _) | (with_reducible refine Below.trans ?_ (Below.mono (by with_reducible assumption) ?_)) | go_size), HSK.out.2.1.other (p := ⟨W1.heap.size, x, none⟩) (by show W1.heap.size ≠ w.heap.size; omega) _, (HSK.out.2.2.set x (.int .i64 ((cc : Int) + 1))).congr fun j _ => HNW.out j⟩⟩
      case measure => omega
     ·obtain ⟨pp, rfl⟩ : ∃ pp, k = pp + 1 := ⟨k - 1, by omega⟩
      obtain ⟨e0, hup⟩ := HPV.out pp rfl
      generalize X.getD pp 0 = y' at *
      have hd3 : decide (x ≤ y') = false := decide_eq_false (by omega)
      have hd4 : decide ((x : Int) ≤ (y' : Int)) = false := decide_eq_false (by omega)
      have hp1 : (0 : Int) < (pp : Int) + 1 := by omega
      have hp2 : decide ((0 : Int) < (pp : Int) + 1) = true := decide_eq_true hp1
      rw [show (((pp + 1 : Nat)) : Int) = (pp : Int) + 1 from by omega]
      clear hk0
      have hnew : ∀ j, (if j = x then Value.int .i64 ((cc : Int) + 1) else .int .i64 ((cntV cs (vs.take q) j + (X.take (pp + 1)).count j : Nat) : Int)) = .int .i64 ((cntV cs (vs.take q) j + (X.take ((pp + 1) + 1)).count j : Nat) : Int) := fun j => by
       rw [HCT.out j]
       by_cases e : j = x
       ·subst e
        rw [if_pos rfl, if_pos rfl, ← Nat.add_assoc, HCC.out]
        rfl
       ·rw [if_neg e, if_neg (fun h => e h.symm)]
        rfl
      have HNW := hid hnew
      clear hnew
      go_wp2
      go_roundg (gk - 1)
      case rel => exact ⟨(pp + 1) + 1, by omega, by go_num, hid ⟨by have := HSK.out.1; repeat' (first | (with_reducible exact Below.refl _ _) | (with_reducible assumption) | (with_reducible refine below_drewN ?_) | (with_reducible refine Below.alloc ?_ ?_ _) | (with_reducible refine Below.drew ?_) | (with_reducible refine Below.setCell ?_ ?_ _) | (with_reducible refine Below.trans ?_ (Below.mono (by with_reducible assumption) ?_)) | go_size), HSK.out.2.1.other (p := ⟨W1.heap.size, x, none⟩) (by show W1.heap.size ≠ w.heap.size; omega) _, (HSK.out.2.2.set x (.int .i64 ((cc : Int) + 1))).congr fun j _ => HNW.out j⟩⟩
      case measure => omega
    ·obtain rfl : k = xl := by omega
     have hne : ((k : Int) == 0) = false := by simp; omega
     have hne2 : (k == 0) = false := by simp; omega
     go_wp2_with fail
     go_roundg (ko - 1)
     case rel => exact ⟨q + 1, by omega, by go_num, hid ⟨HSK.out.1, HSK.out.2.1, HSK.out.2.2.congr fun j _ => by rw [HTK.out, ← HXL.out, List.take_length]⟩⟩
     case measure => omega
  ·obtain rfl : q = nv := by omega
   have HROW : Hid (wr.rowIs W1.heap.size 3 n (fun j => .int .i64 (((cs.getD j Cv.z).2.length : Nat) : Int))) := hid (HST.out.2.2.congr fun j hj => by rw [← HNV.out, List.take_length, HCN.out j hj])
   have HWW := hid (HB1.out.trans (HST.out.1.mono (by omega)))
   have HXB := hid HST.out.2.1
   have HW1 := hid HST.out.1
   have x0 := HXB.out.cell 0 rfl
   clear HST HLR
   go_wp2_with fail
   clear x0
   subst hLB
   obtain ⟨wp, rfl⟩ : ∃ wp, wp = wr := ⟨wr, rfl⟩
   go_loopg [76] n (fun N i wr => ∃ q : Nat, q + N = n ∧ i = .int .i64 (q : Int) ∧ Hid (Below wp.heap.size wp wr))
   case atStart => exact ⟨0, by omega, rfl, hid (Below.refl _ _)⟩
   case round =>
    obtain ⟨q, hq, rfl, HBL⟩ := hrel
    by_cases hpq : 0 < gk
    ·obtain ⟨b, o, rfl, hb, z0, z1, z2⟩ := HER.out q (by omega)
     have HBW := hid (HWW.out.trans (HBL.out.mono HWW.out.size))
     have hwr := HBL.out.size
     have hrl := HROW.out.lt
     have hxl := HXB.out.lt
     have c0 := (HBW.out.cell (p := ⟨b, o + q * 3, none⟩) (by show b < _; omega)).trans z0
     have c1 := (HBW.out.cell (p := ⟨b, o + q * 3 + 1, none⟩) (by show b < _; omega)).trans z1
     have c2 := (HBW.out.cell (p := ⟨b, o + q * 3 + 2, none⟩) (by show b < _; omega)).trans z2
     obtain ⟨hi1, hi2⟩ := HID.out q (by omega)
     have hsz := HLN.out q (by omega)
     have r0 := (HROW.out.of_block (w' := wr) (HBL.out.block _ hrl)).cell (i := q) (by omega)
     have HPREV : Hid (∀ pp, q = pp + 1 → wr.cell? ⟨b, o + pp * 3, none⟩ = some (.int .i64 (refZ (cs.getD pp Cv.z)).1) ∧ wr.cell? ⟨b, o + pp * 3 + 1, none⟩ = some (.int .i64 (refZ (cs.getD pp Cv.z)).2) ∧ rlt (refZ (cs.getD pp Cv.z)) (refZ (cs.getD q Cv.z)) = true) := hid (fun pp e => by
      subst e
      obtain ⟨b', o', e3, hb', y0, y1, y2⟩ := HER.out pp (by omega)
      cases e3
      exact ⟨(HBW.out.cell (p := ⟨b, o + pp * 3, none⟩) (by show b < _; omega)).trans y0, (HBW.out.cell (p := ⟨b, o + pp * 3 + 1, none⟩) (by show b < _; omega)).trans y1, HUP.out pp (by omega)⟩)
     have xb0 := (HXB.out.below HBL.out hxl).cell 0 rfl
     have hr1 : 0 ≤ (refZ (cs.getD q Cv.z)).1 := hi1
     have hr2 : (refZ (cs.getD q Cv.z)).1 ≤ 1073741824 := hi2
     have hr3 : 0 ≤ (refZ (cs.getD q Cv.z)).2 := by show (0 : Int) ≤ ((cs.getD q Cv.z).1.2 : Int); omega
     clear z0 z1 z2 hi1 hi2
     generalize (cs.getD q Cv.z).2.length = sz at *
     generalize refZ (cs.getD q Cv.z) = r at *
     obtain ⟨ra, rb⟩ := r
     simp only at c0 c1 hr1 hr2 hr3
     have HNM := hid (fun W => posting_named ra rb W hr1 hr2 hr3)
     have hd4 : decide ((4096 : Int) < (sz : Int)) = false := decide_eq_false (by omega)
     by_cases hq0 : q = 0
     ·subst hq0
      rw [show (((0 : Nat)) : Int) = 0 from rfl]
      simp only [Nat.zero_mul, Nat.add_zero] at c0 c1 c2
      have hd0 : decide ((0 : Int) < 0) = false := by simp
      go_wp2_with fail
      have HBE := hid ((Below.refl wr.heap.size wr).alloc (Nat.le_refl _) (.cells #[.int .i64 ra, .int .i64 rb, .int .i64 (sz : Int)] 73))
      have hbe := BoxN.new wr #[.int .i64 ra, .int .i64 rb, .int .i64 (sz : Int)] 73
      have hz8 : wr.heap.size ≤ (wr.alloc (.cells #[.int .i64 ra, .int .i64 rb, .int .i64 (sz : Int)] 73)).heap.size := by simp
      generalize wr.alloc (.cells #[.int .i64 ra, .int .i64 rb, .int .i64 (sz : Int)] 73) = W8 at *
      have f0 := fun p : LaterOf W8 => p.cell (hbe.cell 0 rfl)
      have f1 := fun p : LaterOf W8 => p.cell (hbe.cell 1 rfl)
      have f2 := fun p : LaterOf W8 => p.cell (hbe.cell 2 rfl)
      have f3 := fun p : LaterOf W8 => p.cell ((HBE.out.cell (p := ⟨w.heap.size, 0, none⟩) (by show w.heap.size < _; omega)).trans xb0)
      have f4 := fun p : LaterOf W8 => p.cell ((HBE.out.cell (p := ⟨W1.heap.size, 0, none⟩) (by show W1.heap.size < _; omega)).trans r0)
      have HC1 := hid (fun p : LaterOf W8 => later_call p (HNM.out p.W))
      clear hbe
      refine wp_region_later (by kernel_rfl) (by kernel_rfl) ?_
      repeat (first | go_big_quiet_step ((go_at_call 151; exact HC1.out _)) | quiet_step ((go_at_call 151; exact HC1.out _)))
      refine wpQuiet_nil ?_
      intro _ hw'
      obtain ⟨p5, hw''⟩ := hw'
      subst hw''
      have hb5 := p5.hb
      generalize p5.W = w5 at *
      have HB9 := hid (HBL.out.trans ((HBE.out.trans (hb5.mono hz8)).mono hwr))
      clear f0 f1 f2 f3 f4 HC1 hb5 hd4 hd0
      go_wp2_with fail
      go_roundg (gk - 1)
      case rel => exact ⟨0 + 1, by omega, by go_num, HB9⟩
      case measure => omega
     ·obtain ⟨pp, rfl⟩ : ∃ pp, q = pp + 1 := ⟨q - 1, by omega⟩
      obtain ⟨y0, y1, hlt⟩ := HPREV.out pp rfl
      generalize refZ (cs.getD pp Cv.z) = pr at *
      obtain ⟨pa, pb⟩ := pr
      simp only at y0 y1 hlt
      have hw1 : IntKind.i64.wrap ((pp : Int) + 1 - 1) = (pp : Int) := (IntWalk.i64_in _ (by omega)).trans (by omega)
      have hw2 : IntKind.i64.wrap (pp : Int) = (pp : Int) := IntWalk.i64_in _ (by omega)
      have hp1 : (0 : Int) < (pp : Int) + 1 := by omega
      have hd3 : decide ((0 : Int) < (pp : Int) + 1) = true := decide_eq_true (by omega)
      have hpL : (pp : Int) < (n : Int) := by omega
      have hpL2 : pp < n := by omega
      have hpL3 : (pp : Int) + 1 < (n : Int) := by omega
      rw [show (((pp + 1 : Nat)) : Int) = (pp : Int) + 1 from by omega]
      go_wp2_with fail
      have HBE := hid ((Below.refl wr.heap.size wr).alloc (Nat.le_refl _) (.cells #[.int .i64 ra, .int .i64 rb, .int .i64 (sz : Int)] 73))
      have hbe := BoxN.new wr #[.int .i64 ra, .int .i64 rb, .int .i64 (sz : Int)] 73
      have hz8 : wr.heap.size ≤ (wr.alloc (.cells #[.int .i64 ra, .int .i64 rb, .int .i64 (sz : Int)] 73)).heap.size := by simp
      generalize wr.alloc (.cells #[.int .i64 ra, .int .i64 rb, .int .i64 (sz : Int)] 73) = W8 at *
      have f0 := fun p : LaterOf W8 => p.cell (hbe.cell 0 rfl)
      have f1 := fun p : LaterOf W8 => p.cell (hbe.cell 1 rfl)
      have f2 := fun p : LaterOf W8 => p.cell (hbe.cell 2 rfl)
      have f3 := fun p : LaterOf W8 => p.cell ((HBE.out.cell (p := ⟨w.heap.size, 0, none⟩) (by show w.heap.size < _; omega)).trans xb0)
      have f4 := fun p : LaterOf W8 => p.cell ((HBE.out.cell (p := ⟨W1.heap.size, (pp + 1), none⟩) (by show W1.heap.size < _; omega)).trans r0)
      have HC1 := hid (fun p : LaterOf W8 => later_call p (HNM.out p.W))
      have f5 := fun p : LaterOf W8 => p.cell ((HBE.out.cell (p := ⟨b, o + pp * 3, none⟩) (by show b < _; omega)).trans y0)
      have f6 := fun p : LaterOf W8 => p.cell ((HBE.out.cell (p := ⟨b, o + pp * 3 + 1, none⟩) (by show b < _; omega)).trans y1)
      have HC2 := hid (fun p : LaterOf W8 => (show Calls Tryz.prog 152 #[.agg #[.int .i64 pa, .int .i64 pb], .agg #[.int .i64 ra, .int .i64 rb]] p.W fun e w'' => e = .returned (.bool true) ∧ ∃ q : LaterOf W8, w'' = q.W from later_call p (by have h := table_Less pa pb ra rb p.W; rw [hlt] at h; exact h)))
      clear hbe
      refine wp_region_later (by kernel_rfl) (by kernel_rfl) ?_
      repeat (first | go_big_quiet_step ((first | (go_at_call 151; exact HC1.out _) | (go_at_call 152; exact HC2.out _))) | quiet_step ((first | (go_at_call 151; exact HC1.out _) | (go_at_call 152; exact HC2.out _))))
      refine wpQuiet_nil ?_
      intro _ hw'
      obtain ⟨p5, hw''⟩ := hw'
      subst hw''
      have hb5 := p5.hb
      generalize p5.W = w5 at *
      have HB9 := hid (HBL.out.trans ((HBE.out.trans (hb5.mono hz8)).mono hwr))
      clear f0 f1 f2 f3 f4 HC1 hb5 hd4 f5 f6 HC2 hw1 hw2 hd3
      go_wp2_with fail
      go_roundg (gk - 1)
      case rel => exact ⟨(pp + 1) + 1, by omega, by go_num, HB9⟩
      case measure => omega
    ·obtain rfl : q = n := by omega
     go_wp2
     go_ret
     exact ⟨rfl, HWW.out.trans (HBL.out.mono HWW.out.size)⟩
end Go.Proofs.YtikiimlmoalbcaaGreatDoor
