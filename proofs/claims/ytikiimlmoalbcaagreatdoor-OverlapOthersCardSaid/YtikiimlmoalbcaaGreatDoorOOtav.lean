/- Contract of (*bounded.search).next. Contract of slices.BinarySearch at texts. Contracts of slices.BinarySearch: where a text is found; at numbers. Contract of bounded.Common: the common values of a query and a column. Contract of (*search).cheaper: it answers. A search over an index as it stands in memory (SrcSt); the state that begin makes. -/
import Derived.Deep.RegionHeld3
import Derived.Test.YtikiimlmoalbcaaGreatDoorOOtau
import Derived.Test.YtikiimlmoalbcaaGreatDoorOOtag
import Derived.Test.YtikiimlmoalbcaaGreatDoorOOtaq
import Derived.Test.YtikiimlmoalbcaaGreatDoorOOtaj
set_option linter.unusedVariables false
set_option linter.unusedSimpArgs false
namespace Go.Proofs.YtikiimlmoalbcaaGreatDoor
open Go.RowKit
def incL (lows L : List Nat) (ys : List Nat) : Prop := ys.length = lows.length ∧ ∀ j, j < lows.length → ys.getD j 0 = lows.getD j 0 + L.count j
theorem incL.start (lows : List Nat) : incL lows [] lows := ⟨rfl, fun j _ => by simp⟩
theorem incL.step {lows L ys : List Nat} (h : incL lows L ys) {c : Nat} (hc : c < lows.length) : incL lows (L ++ [c]) (ys.set c (ys.getD c 0 + 1)) := by
  refine ⟨by rw [List.length_set]; exact h.1, fun j hj => ?_⟩
  have h1 := h.2 j hj
  rw [List.count_append, List.count_singleton]
  by_cases e : c = j
  · subst e
    have hl : c < ys.length := by rw [h.1]; exact hc
    have e2 : (ys.set c (ys.getD c 0 + 1)).getD c 0 = ys.getD c 0 + 1 := by simp [List.getD, hl]
    rw [e2, h1]
    simp
    omega
  · have e2 : (ys.set c (ys.getD c 0 + 1)).getD j 0 = ys.getD j 0 := by simp [List.getD, List.getElem?_set, e]
    rw [e2, h1]
    simp [e]
theorem RowI.put {w : World} {base b cap n : Nat} {xs : List Nat} (h : RowI w base b cap n xs) {i v : Nat} : RowI (w.setCell ⟨b, i, none⟩ (.int .i64 (v : Int))) base b cap n (xs.set i v) := by
  have h1 := (h.2.stored i (.int .i64 (v : Int))).1
  refine ⟨by rw [List.length_set]; exact h.1, ?_⟩
  have e : (natsV xs).set i (.int .i64 (v : Int)) = natsV (xs.set i v) := by simp [natsV, List.map_set]
  rw [e] at h1
  exact h1
theorem RowI.same {w w' : World} {base b cap n : Nat} {xs : List Nat} (h : RowI w base b cap n xs) (e : w'.heap[b]? = w.heap[b]?) : RowI w' base b cap n xs := by
  obtain ⟨h0, hl, h1⟩ := h
  refine ⟨h0, hl, ?_⟩
  rcases h1 with ⟨e1, -⟩ | ⟨g, cap', cur, e1, h2, h3, h4⟩
  · exact absurd e1 (by simp)
  · obtain ⟨e2, -, -⟩ := Value.slice.inj e1
    have e3 : b = g := by simpa using e2
    subst e3
    exact .inr ⟨b, cap', cur, e1, h2, e.trans h3, h4⟩
def NextP (w : World) (sb lb base cap E : Nat) (ev vv lv qv ls fv : Value) (r m : Nat) (lows L : List Nat) (e : Ending) (w' : World) : Prop :=
  (r < m → e = .returned (.bool true) ∧ ∃ ys, incL lows L ys ∧ RowI w' base lb cap E ys ∧ SrcBox w' sb ev vv lv qv ls (r + 1) (.slice (some ⟨lb, 0, none⟩) E cap) fv ∧ (∀ k, k < w.heap.size → k ≠ sb → k ≠ lb → w'.heap[k]? = w.heap[k]?) ∧ w.heap.size ≤ w'.heap.size ∧ w'.os = w.os ∧ w'.tape = w.tape ∧ w'.output = w.output) ∧
  (¬ r < m → e = .returned (.bool false) ∧ Below w.heap.size w w')
set_option maxRecDepth 100000 in
set_option maxHeartbeats 8000000 in
theorem src_next (ev vv qv fv : Value) (la xa : Option Addr) (NL lc m xc r E lb sb base cap : Nat) (ix : Ix) (lows pl : List Nat) (S : Nat → Prop) (w : World) (hx : RdIx w S ev vv (.slice la NL lc) ix) (hp : InN w S (.slice xa m xc) pl) (hS : ∀ k, S k → k < w.heap.size ∧ k ≠ sb ∧ k ≠ lb)
  (hb : SrcBox w sb ev vv (.slice la NL lc) qv (.slice xa m xc) r (.slice (some ⟨lb, 0, none⟩) E cap) fv) (hl : RowI w base lb cap E lows) (hsl : sb ≠ lb) (hr : r ≤ m) (hpl : ∀ j, j < m → pl.getD j 0 < NL) (hNL : ix.lists.length = NL) (hpm : pl.length = m)
  (hin : ∀ L ∈ ix.lists, ∀ c ∈ L, c < E) (hbig : ∀ j, lows.getD j 0 ≤ 1048576) (hLl : ∀ L ∈ ix.lists, L.length ≤ 1048576) (hm : m ≤ 1048576) (hEb : E ≤ 1048576) :
  Calls Tryz.prog 158 #[.pointer (some ⟨sb, 0, none⟩)] w (NextP w sb lb base cap E ev vv (.slice la NL lc) qv (.slice xa m xc) fv r m lows (ix.lists.getD (pl.getD r 0) [])) := by
 have b2 := BoxN.cell hb 2 rfl
 have b4 := BoxN.cell hb 4 rfl
 have b5 := BoxN.cell hb 5 rfl
 have b6 := BoxN.cell hb 6 rfl
 have f5 := BoxN.frozen hb 5
 by_cases hrm : r < m
 ·obtain ⟨-, -, lf, ⟨la', lc', e9, hlc, hlm, hlr⟩, hkids⟩ := hx
  obtain ⟨rfl, -, rfl⟩ := Value.slice.inj e9
  obtain ⟨xa', xc', e8, hxc, hxm, hpr⟩ := hp
  obtain ⟨rfl, -, rfl⟩ := Value.slice.inj e8
  have hxN := hpl r hrm
  obtain ⟨b, o, rfl, hbS, hcell⟩ := hlr (by omega)
  obtain ⟨pb, po, rfl, hpS, hpcell⟩ := hpr (by omega)
  have k0 : w.cell? ⟨b, o + pl.getD r 0, none⟩ = some (lf (pl.getD r 0)) := by have h := hcell (pl.getD r 0) (by omega) 0 (by omega); simpa using h
  have k1 : w.cell? ⟨pb, po + r, none⟩ = some (.int .i64 ((pl.getD r 0 : Nat) : Int)) := by
   have h := hpcell r (by omega) 0 (by omega)
   simpa [natF] using h
  obtain ⟨a1, d1, e1, hd1, hdm, hrow⟩ := hkids (pl.getD r 0) (by omega)
  have hLm : ix.lists.getD (pl.getD r 0) [] ∈ ix.lists := by
   have h1 : pl.getD r 0 < ix.lists.length := by omega
   have h2 : ix.lists.getD (pl.getD r 0) [] = ix.lists[pl.getD r 0] := (List.getElem_eq_getD _).symm
   rw [h2]
   exact List.getElem_mem _
  have hLc := hin _ hLm
  have hLz := hLl _ hLm
  rw [e1] at k0
  generalize ix.lists.getD (pl.getD r 0) [] = L at *
  generalize pl.getD r 0 = x at *
  have hlows : lows.length = E := hl.1
  have hbox := hid hb
  have HL0 := hid hl
  have HROW := hid (fun (hpz : 0 < L.length) => (by
   obtain ⟨gb, go, ea, hgS, hg⟩ := hrow hpz
   exact ⟨gb, go, ea, (hS gb hgS).1, (hS gb hgS).2.2, fun i hi => by have h := hg i hi 0 (by omega); simpa [natF] using h⟩ : ∃ gb go, a1 = some ⟨gb, go, none⟩ ∧ gb < w.heap.size ∧ gb ≠ lb ∧ ∀ i, i < L.length → w.cell? ⟨gb, go + i, none⟩ = some (.int .i64 ((L.getD i 0 : Nat) : Int))))
  have HLC := hid hLc
  have HBG := hid hbig
  have hsz := BoxN.lt hb
  obtain ⟨len, hlen⟩ : ∃ len, len = L.length := ⟨_, rfl⟩
  rw [← hlen] at hd1 hLz
  rw [← hlen] at k0
  clear hcell hlr hpcell hpr hkids hrow hin hLl hbig hpl e1 e8 e9 hb hl hLm hLc hbS hpS hS
  rw [hNL] at hlc
  rw [hpm] at hxc
  clear hNL hpm
  unfold maxLen at *
  have heq : ((r : Int) == (m : Int)) = false := by
   have h : (r : Int) ≠ (m : Int) := by omega
   simpa using h
  have hri : (r : Int) < (m : Int) := by omega
  have hr0 : (0 : Int) ≤ (r : Int) := by omega
  have hxi : (x : Int) < (NL : Int) := by omega
  have hx0 : (0 : Int) ≤ (x : Int) := by omega
  have HBz : ∀ W, Below w.heap.size w W → Hid (BarZ w lb W) := fun W h => hid ((BarZ.refl w lb).quiet h)
  have HLz : ∀ W, Below w.heap.size w W → Hid (RowI W base lb cap E lows) := fun W h => hid (HL0.out.later h)
  clear HL0
  go_enter Tryz.func158, Tryz.ntmps158
  generalize hLA : Code.loop _ = LA
  go_wp2_with fail
  go_quiet (fail)
  go_wp2
  go_quiet (fail)
  clear b2 b4 b5 b6 f5 k0 k1
  subst hLA
  go_wp2_with fail
  go_loopg [33, 4] len (fun K i c wr => ∃ (q : Nat) (ys : List Nat), i = .int .i64 (q : Int) ∧ q + K = len ∧ Hid (incL lows (L.take q) ys) ∧ Hid (RowI wr base lb cap E ys) ∧ Hid (BarZ w lb wr))
  case atStart => exact ⟨0, lows, rfl, by omega, hid (incL.start lows), HLz _ ⟨rfl, rfl, rfl, Nat.le_refl _, fun _ _ => rfl⟩, HBz _ ⟨rfl, rfl, rfl, Nat.le_refl _, fun _ _ => rfl⟩⟩
  case round =>
   obtain ⟨q, ys, rfl, hq, HI, HR, HB⟩ := hrel
   clear HLz HBz
   have hX : SrcBox wr sb ev vv (.slice (some ⟨b, o, none⟩) NL lc) qv (.slice (some ⟨pb, po, none⟩) m xc) r (.slice (some ⟨lb, 0, none⟩) E cap) fv := (HB.out.block sb hsz hsl).trans hbox.out
   by_cases hp : 0 < gk
   ·obtain ⟨gb, go, rfl, hgl, hgn, hg⟩ := HROW.out (by omega)
    have hqL : q < L.length := by omega
    have hqi : (q : Int) < (len : Int) := by omega
    have c6 := BoxN.cell hX 6 rfl
    have k2 := (HB.out.cell (p := ⟨gb, go + q, none⟩) hgl hgn).trans (hg q hqL)
    have hgd : L.getD q 0 = L[q] := by simp [List.getD, hqL]
    have hcE : L.getD q 0 < E := by rw [hgd]; exact HLC.out _ (List.getElem_mem _)
    have htk : L.take (q + 1) = L.take q ++ [L.getD q 0] := by rw [hgd, List.take_succ_eq_append_getElem hqL]
    have HI1 := hid (HI.out.step (c := L.getD q 0) (by omega))
    rw [← htk] at HI1
    have hv : ys.getD (L.getD q 0) 0 ≤ 2097152 := by
     have h1 := HI.out.2 (L.getD q 0) (by omega)
     have h2 := HBG.out (L.getD q 0)
     have h3 : (L.take q).count (L.getD q 0) ≤ (L.take q).length := List.count_le_length
     rw [List.length_take] at h3
     omega
    generalize L.getD q 0 = c at *
    have k3 := HR.out.at hcE
    have f3 := HR.out.2.frozenAt c
    have HS1 : Hid (RowI (wr.setCell ⟨lb, c, none⟩ (.int .i64 ((ys.getD c 0 : Nat) + 1 : Int))) base lb cap E (ys.set c (ys.getD c 0 + 1))) := hid (RowI.put  (v := ys.getD c 0 + 1) HR.out)
    have HB1 : Hid (BarZ w lb (wr.setCell ⟨lb, c, none⟩ (.int .i64 ((ys.getD c 0 : Nat) + 1 : Int)))) := hid (HB.out.grown ⟨rfl, rfl, rfl, by simp, fun k _ hk => Below.heap_setCell _ _ _ _ (fun e => hk (by rw [e]))⟩)
    generalize ys.set c (ys.getD c 0 + 1) = zs at *
    generalize ys.getD c 0 = v at *
    have hci : (c : Int) < (E : Int) := by omega
    have hc0 : (0 : Int) ≤ (c : Int) := by omega
    clear HI HR HB hX hg htk hgd hqL
    go_wp2_with fail
    go_roundg (gk - 1)
    case rel => exact ⟨q + 1, zs, by go_num, by omega, HI1, HS1, HB1⟩
    case measure => omega
   ·obtain rfl : gk = 0 := by omega
    obtain rfl : q = len := by omega
    rw [hlen, List.take_length] at HI
    have c5 := BoxN.cell hX 5 rfl
    have f5 := BoxN.frozen hX 5
    have hrr : (r : Int) + 1 = ((r + 1 : Nat) : Int) := by omega
    have HX2 : Hid (SrcBox (wr.setCell ⟨sb, 5, none⟩ (.int .i64 ((r : Int) + 1))) sb ev vv (.slice (some ⟨b, o, none⟩) NL lc) qv (.slice (some ⟨pb, po, none⟩) m xc) (r + 1) (.slice (some ⟨lb, 0, none⟩) E cap) fv) := hid (by rw [hrr]; exact BoxN.set hX 5 _)
    have HR2 : Hid (RowI (wr.setCell ⟨sb, 5, none⟩ (.int .i64 ((r : Int) + 1))) base lb cap E ys) := hid (HR.out.same (Below.heap_setCell _ _ _ _ (Ne.symm hsl)))
    have HF : Hid (NextP w sb lb base cap E ev vv (.slice (some ⟨b, o, none⟩) NL lc) qv (.slice (some ⟨pb, po, none⟩) m xc) fv r m lows L (.returned (.bool true)) (wr.setCell ⟨sb, 5, none⟩ (.int .i64 ((r : Int) + 1)))) := hid ⟨fun _ => ⟨rfl, ys, HI.out, HR2.out, HX2.out, fun k hk h1 h2 => (Below.heap_setCell _ _ _ _ h1).trans (HB.out.block k hk h2), by have h := HB.out.size; simpa using h, HB.out.os, HB.out.tape, HB.out.output⟩, fun h => absurd hrm h⟩
    clear HX2 HR2 HI HR HB hX
    have hrb : r ≤ 1048576 := by omega
    clear hrr
    go_wp2
    go_ret
    exact HF.out
 ·obtain rfl : r = m := by omega
  have heq : ((r : Int) == (r : Int)) = true := by simp
  have HB := hid (fun nq => (⟨rfl, rfl, rfl, Nat.le_refl _, fun _ _ => rfl⟩ : Below w.heap.size w (w.drewN nq)))
  have HSX := hid hb
  clear hx hp hS hb hl hsl hpl hNL hpm hin hbig hLl
  go_enter Tryz.func158, Tryz.ntmps158
  generalize hLA : Code.loop _ = LA
  go_wp2_with fail
  go_quiet (fail)
  go_wp2
  go_ret
  exact ⟨fun h => by omega, fun _ => ⟨rfl, HB.out _⟩⟩
end Go.Proofs.YtikiimlmoalbcaaGreatDoor

namespace Go.Proofs.YtikiimlmoalbcaaGreatDoor
open Go.RowKit
set_option maxHeartbeats 400000 in
theorem lib_isNaNS (s : ByteArray) (w : World) : Calls Tryz.prog 132 #[.string s] w (fun e w' => e = .returned (.bool false) ∧ w' = w) := by
  go_enter Tryz.func132, Tryz.ntmps132
  go_wp2
  go_ret
  exact ⟨by simp, rfl⟩
set_option maxHeartbeats 400000 in
theorem cmp_isNaN (s : ByteArray) (w : World) : Calls Tryz.prog 172 #[.string s] w (fun e w' => e = .returned (.bool false) ∧ w' = w) := by
  go_enter Tryz.func172, Tryz.ntmps172
  go_wp2
  go_ret
  exact ⟨by simp, rfl⟩
set_option maxHeartbeats 400000 in
theorem cmp_Less (s t : ByteArray) (w : World) : Calls Tryz.prog 131 #[.string s, .string t] w (fun e w' => e = .returned (.bool (sl s t)) ∧ w' = w) := by
  have hs : Op.bytesLess s.toList t.toList = sl s t := rfl
  generalize sl s t = F at *
  go_enter Tryz.func131, Tryz.ntmps131
  go_wp2_with fail
  with_reducible refine (cmp_isNaN _ _).mono ?_
  rintro e w1 ⟨rfl, rfl⟩
  go_wp2
  go_ret
  exact ⟨rfl, rfl⟩
def BinP (w : World) (F : Bool) (e : Ending) (w' : World) : Prop := ∃ p : Int, e = .returned (.tuple #[.int .i64 p, .bool F]) ∧ w' = w
theorem asc_lt {ys : List ByteArray} (h : Asc ys) {i j : Nat} (hij : i < j) (hj : j < ys.length) : sl (ys.getD i ⟨#[]⟩) (ys.getD j ⟨#[]⟩) = true := by
  have := List.pairwise_iff_getElem.1 h i j (by omega) hj hij
  simpa [List.getD, hj, show i < ys.length by omega] using this
theorem bin_found {ys : List ByteArray} {s : ByteArray} {a : Nat} (ha : a < ys.length) (h : ys.getD a ⟨#[]⟩ = s) : hasL ys s = true := (hasL_iff ys s).2 ((mem_getD ys s).2 ⟨a, ha, h⟩)
theorem bin_not {ys : List ByteArray} {s : ByteArray} (h : Asc ys) {a : Nat} (h1 : ∀ p, p < a → sl (ys.getD p ⟨#[]⟩) s = true) (h2 : a < ys.length → ys.getD a ⟨#[]⟩ ≠ s ∧ sl (ys.getD a ⟨#[]⟩) s = false) : hasL ys s = false := by
  cases hF : hasL ys s
  · rfl
  · obtain ⟨p, hp, e⟩ := (mem_getD ys s).1 ((hasL_iff ys s).1 hF)
    rcases Nat.lt_trichotomy p a with hlt | heq | hgt
    · have := h1 p hlt
      rw [e, sl_irrefl] at this
      cases this
    · subst heq
      exact absurd e (h2 hp).1
    · have h3 := asc_lt h hgt hp
      rw [e, (h2 (by omega)).2] at h3
      cases h3
end Go.Proofs.YtikiimlmoalbcaaGreatDoor

namespace Go.Proofs.YtikiimlmoalbcaaGreatDoor
open Go.RowKit
def BinQ (w : World) (ys : List ByteArray) (s : ByteArray) (F : Bool) (e : Ending) (w' : World) : Prop :=
  ∃ p : Int, e = .returned (.tuple #[.int .i64 p, .bool F]) ∧ w' = w ∧ (F = true → ∃ n : Nat, p = (n : Int) ∧ n < ys.length ∧ ys.getD n ⟨#[]⟩ = s)
set_option maxHeartbeats 2000000 in
theorem lib_BinAt (v : Value) (ys : List ByteArray) (s : ByteArray) (B : Nat) (w : World) (hv : RdS w B v ys) (hasc : Asc ys) (hlen : ys.length ≤ 1099511627776) :
  Calls Tryz.prog 69 #[v, .string s] w (BinQ w ys s (hasL ys s)) := by
 obtain ⟨a, c, rfl, hc, hm, hx⟩ := hv
 have HF := hid (fun a h1 h2 => @bin_found ys s a h1 h2)
 have HN := hid (fun a h1 h2 => @bin_not ys s hasc a h1 h2)
 have HA := hid (fun i j h1 h2 => @asc_lt ys hasc i j h1 h2)
 generalize hasL ys s = F at *
 generalize hn : ys.length = n at *
 have HNL := hid hn
 have HX := hid hx
 clear hn hx
 unfold maxLen at hm
 go_enter Tryz.func69, Tryz.ntmps69
 go_wp2
 go_loopw [7, 8] (fun i j w' => ∃ p q : Nat, i = .int .i64 (p : Int) ∧ j = .int .i64 (q : Int) ∧ p ≤ q ∧ q ≤ n ∧ Hid (∀ x, x < p → sl (ys.getD x ⟨#[]⟩) s = true) ∧ Hid (q < n → sl (ys.getD q ⟨#[]⟩) s = false) ∧ w' = w) (fun i j _ => (intOf j).toNat - (intOf i).toNat)
 case atStart => exact ⟨0, n, rfl, rfl, by omega, by omega, hid (fun x h => absurd h (by omega)), hid (fun h => absurd h (by omega)), rfl⟩
 case round =>
  obtain ⟨p, q, rfl, rfl, hpq, hq, hlo, hhi, rfl⟩ := hrel
  by_cases hlt : p < q
  ·obtain ⟨b, o, rfl, hb, hcell⟩ := HX.out (by omega)
   have hmn : (p + q) / 2 < n := by omega
   have h1 : wr.cell? ⟨b, o + (p + q) / 2, none⟩ = some (.string (ys.getD ((p + q) / 2) ⟨#[]⟩)) := hcell _ hmn
   have HUP : Hid (sl (ys.getD ((p + q) / 2) ⟨#[]⟩) s = true → ∀ x, x < (p + q) / 2 + 1 → sl (ys.getD x ⟨#[]⟩) s = true) := hid (fun h x hx => by
    rcases Nat.lt_or_ge x ((p + q) / 2) with h3 | h3
    ·exact sl_trans (HA.out _ _ h3 hmn) h
    ·obtain rfl : x = (p + q) / 2 := by omega
     exact h)
   have HDN : Hid (sl (ys.getD ((p + q) / 2) ⟨#[]⟩) s = false → (p + q) / 2 < n → sl (ys.getD ((p + q) / 2) ⟨#[]⟩) s = false) := hid (fun h _ => h)
   clear hcell
   generalize hX : ys.getD ((p + q) / 2) ⟨#[]⟩ = x at h1 HUP
   go_wp2_with fail
   with_reducible refine (cmp_Less x s _).mono ?_
   rintro e w1 ⟨rfl, rfl⟩
   cases hs : sl x s
   ·have HS := hid (HDN.out (by rw [hX]; exact hs))
    clear HUP HDN hX
    go_wp2
    go_roundw
    case rel => exact ⟨p, (p + q) / 2, rfl, by go_num, by omega, by omega, hlo, HS, by first | rfl | trivial⟩
    case measure => simp [intOf]; omega
   ·have HS := hid (HUP.out hs)
    clear HUP HDN hX
    go_wp2
    go_roundw
    case rel => exact ⟨(p + q) / 2 + 1, q, by go_num, rfl, by omega, by omega, HS, hhi, by first | rfl | trivial⟩
    case measure => simp [intOf]; omega
  ·obtain rfl : p = q := by omega
   by_cases hpn : p < n
   ·obtain ⟨b, o, rfl, hb, hcell⟩ := HX.out (by omega)
    have h1 : wr.cell? ⟨b, o + p, none⟩ = some (.string (ys.getD p ⟨#[]⟩)) := hcell p hpn
    have HY := hid (HF.out p hpn)
    have HNO := hid (fun h => HN.out p hlo.out (fun _ => ⟨h, hhi.out hpn⟩))
    clear hcell
    have HXE : Hid (ys.getD p ⟨#[]⟩ = ys.getD p ⟨#[]⟩) := hid rfl
    obtain ⟨x, hxe⟩ : ∃ x, x = ys.getD p ⟨#[]⟩ := ⟨_, rfl⟩
    have HXV := hid hxe.symm
    rw [← hxe] at h1 HY HNO
    clear HXE hxe
    by_cases he : x = s
    ·subst he
     have hF : F = true := HY.out rfl
     subst hF
     go_wp2
     go_ret2
     exact ⟨_, rfl, rfl, fun _ => ⟨p, rfl, by rw [HNL.out]; exact hpn, HXV.out⟩⟩
    ·have hne : (x.toList == s.toList) = false := by
      cases h : (x.toList == s.toList)
      ·rfl
      ·exact absurd (bytes_ext (by simpa using h)) he
     have hF : F = false := HNO.out he
     subst hF
     go_wp2_with fail
     with_reducible refine (lib_isNaNS _ _).mono ?_
     rintro e w1 ⟨rfl, rfl⟩
     go_wp2
     go_ret2
     exact ⟨_, rfl, rfl, fun h => by cases h⟩
   ·have hF : F = false := HN.out p hlo.out (fun h => absurd h hpn)
    subst hF
    go_wp2
    go_ret2
    exact ⟨_, rfl, rfl, fun h => by cases h⟩
end Go.Proofs.YtikiimlmoalbcaaGreatDoor

namespace Go.Proofs.YtikiimlmoalbcaaGreatDoor
open Go.RowKit
theorem asc_nodupB {X : List ByteArray} (h : Asc X) : X.Nodup := h.imp fun {a b} h e => by subst e; rw [sl_irrefl] at h; cases h
theorem com_swap {X q : List ByteArray} (hX : X.Nodup) (hq : q.Nodup) : (X.filter (hasL q)).length = (q.filter (hasL X)).length :=
  ((List.perm_ext_iff_of_nodup (hX.sublist List.filter_sublist) (hq.sublist List.filter_sublist)).2 fun v => by
    rw [List.mem_filter, List.mem_filter, hasL_iff, hasL_iff]
    exact and_comm).length_eq
set_option maxRecDepth 100000 in
set_option maxHeartbeats 4000000 in
theorem src_common (cs : List Cv) (hok : CvsOk cs) (q : List ByteArray) (ev vv lv qv : Value) (B c : Nat) (w : World) (hc : c < cs.length) (hx : RdIx w (· < B) ev vv lv (indexOf cs)) (hB : B ≤ w.heap.size) (hq : RdS w w.heap.size qv q) (hasc : Asc q) (hql : q.length ≤ 1099511627776) :
  Calls Tryz.prog 66 #[.agg #[ev, vv, lv], qv, .int .i64 (c : Int)] w (Ret w (.int .i64 ((comC cs q c : Nat) : Int))) := by
 have hsz : (cs.getD c Cv.z).2.length ≤ 4096 := hok.len _ (getD_mem hc Cv.z)
 have HCM : Hid (((cs.getD c Cv.z).2.filter (hasL q)).length = comC cs q c) := hid (com_swap (asc_nodupB (hok.sets _ (getD_mem hc Cv.z))) (asc_nodupB hasc))
 obtain ⟨qa, qc, rfl, hqr⟩ : ∃ a c, qv = .slice a q.length c ∧ RdS w w.heap.size (.slice a q.length c) q := by
  obtain ⟨a, c, e, h⟩ := hq
  subst e
  exact ⟨a, c, rfl, a, c, rfl, h⟩
 have HBIN := hid (fun W s (hW : Below w.heap.size w W) => lib_BinAt (.slice qa q.length qc) q s w.heap.size W (hqr.keep fun p hp => hW.cell (p := p) hp) hasc hql)
 obtain ⟨ea, ec, rfl, -⟩ := hx.ents
 obtain ⟨va, vc, rfl, -⟩ := hx.vals
 obtain ⟨lf, ⟨la, lc, rfl, -⟩, -⟩ := id hx.lists
 have HVAL := hid (fun W (hW : Below w.heap.size w W) => posting_Values cs hok _ _ _ B c W hc (hx.keep fun p (hp : p.block < B) => hW.cell (p := p) (by omega)) (Nat.le_trans hB hW.size))
 have HFT := hid (fun i (h : i < (cs.getD c Cv.z).2.length) => filter_take (hasL q) h)
 have HFL := hid (fun i => (show ((((cs.getD c Cv.z).2.take i).filter (hasL q)).length ≤ i) from Nat.le_trans (List.length_filter_le _ _) (List.length_take_le _ _)))
 clear hx hB hq hqr hok hasc hql
 generalize (cs.getD c Cv.z).2 = X at *
 generalize comC cs q c = R at *
 generalize q.length = ql at *
 generalize (indexOf cs).ents.length = n1 at *
 generalize (indexOf cs).vals.length = n2 at *
 generalize (indexOf cs).lists.length = n3 at *
 have hx0 := BoxN.new w #[.slice ea n1 ec, .slice va n2 vc, .slice la n3 lc] 30
 have x0 := hx0.cell 0 rfl
 have x1 := hx0.cell 1 rfl
 have x2 := hx0.cell 2 rfl
 have HB0 := hid ((Below.refl w.heap.size w).alloc (Nat.le_refl _) (.cells #[.slice ea n1 ec, .slice va n2 vc, .slice la n3 lc] 30))
 clear hx0
 go_enter Tryz.func66, Tryz.ntmps66
 generalize hLA : Code.loop _ = LA
 go_wp2_with fail
 generalize w.alloc (.cells #[.slice ea n1 ec, .slice va n2 vc, .slice la n3 lc] 30) = W0 at *
 with_reducible refine (HVAL.out _ HB0.out).mono ?_
 rintro e w1 ⟨xa, xc, rfl, hown, hb1⟩
 have HR := hid (rdS_of_own hown)
 have HB1 := hid (HB0.out.trans (hb1.mono HB0.out.size))
 clear hown hb1 x0 x1 x2 HB0 HVAL
 obtain ⟨len, hlen⟩ : ∃ len, len = X.length := ⟨_, rfl⟩
 rw [← hlen] at hsz
 have HRX : Hid (∀ i, i < len → ∃ b o, xa = some ⟨b, o, none⟩ ∧ w1.cell? ⟨b, o + i, none⟩ = some (.string (X.getD i ⟨#[]⟩))) := hid (fun i hi => by
  obtain ⟨a, c, e, -, -, h⟩ := HR.out
  obtain ⟨rfl, -, -⟩ := Value.slice.inj e
  obtain ⟨b, o, e2, -, h3⟩ := h (by omega)
  exact ⟨b, o, e2, h3 i (by omega)⟩)
 rw [← hlen]
 have HXL := hid hlen
 clear hlen HR
 subst hLA
 go_wp2_with fail
 go_loopg [16, 7, 9, 10, 11] len (fun K i n u1 u2 u3 wr => ∃ p : Nat, i = .int .i64 (p : Int) ∧ p + K = len ∧ n = .int .i64 ((((X.take p).filter (hasL q)).length : Nat) : Int) ∧ wr = w1)
 case atStart => exact ⟨0, rfl, by omega, by simp, rfl⟩
 case round =>
  obtain ⟨p, rfl, hp0, rfl, rfl⟩ := hrel
  by_cases hp : 0 < gk
  ·have hpl : (p : Int) < (len : Int) := by omega
   obtain ⟨b, o, rfl, k0⟩ := HRX.out p (by omega)
   have HSTEP := hid (HFT.out p (by have := HXL.out; omega))
   have hfl := HFL.out p
   generalize hs : X.getD p ⟨#[]⟩ = s at *
   have HBQ := hid (HBIN.out wr s HB1.out)
   clear hs
   have hpx : (((X.take (p + 1)).filter (hasL q)).length : Nat) = ((X.take p).filter (hasL q)).length + if hasL q s = true then 1 else 0 := by
    rw [HSTEP.out, List.length_append]
    split <;> rfl
   clear HSTEP
   generalize hv : ((X.take p).filter (hasL q)).length = v at *
   clear hv
   generalize hasL q s = F at *
   go_wp2_with fail
   with_reducible refine HBQ.out.mono ?_
   rintro e w2 ⟨z, rfl, rfl, -⟩
   cases F
   ·go_wp2_with fail
    go_roundg (gk - 1)
    case rel => exact ⟨p + 1, by go_num, by omega, by rw [hpx]; rfl, rfl⟩
    case measure => omega
   ·go_wp2_with fail
    go_roundg (gk - 1)
    case rel => exact ⟨p + 1, by go_num, by omega, by rw [hpx]; go_num, rfl⟩
    case measure => omega
  ·obtain rfl : gk = 0 := by omega
   obtain rfl : p = len := by omega
   have e : ((X.take p).filter (hasL q)).length = R := by rw [HXL.out, List.take_length]; exact HCM.out
   rw [e]
   go_wp2
   go_ret
   exact ⟨rfl, HB1.out⟩
end Go.Proofs.YtikiimlmoalbcaaGreatDoor

namespace Go.Proofs.YtikiimlmoalbcaaGreatDoor
open Go.RowKit
def CheapP (w : World) (e : Ending) (w' : World) : Prop := ∃ b, e = .returned (.bool b) ∧ Below w.heap.size w w'
theorem ent_size {w : World} {S : Nat → Prop} {ea : Option Addr} {E ec : Nat} {cs : List Cv} (hx : InK 3 w S (.slice ea E ec) E (entF (entsOf cs))) (hE : cs.length = E) {c : Nat} (hc : c < E) :
    ∃ b o, ea = some ⟨b, o, none⟩ ∧ S b ∧ w.cell? ⟨b, o + c * 3 + 2, none⟩ = some (.int .i64 ((sizeC cs c : Nat) : Int)) := by
  obtain ⟨ea', ec', e9, hec, hem, her⟩ := hx
  obtain ⟨rfl, -, rfl⟩ := Value.slice.inj e9
  obtain ⟨b, o, e, hbS, hcell⟩ := her (by omega)
  refine ⟨b, o, e, hbS, ?_⟩
  have hcl : c < cs.length := by omega
  have h := hcell c hc 2 (by omega)
  rw [show entF (entsOf cs) c 2 = .int .i64 ((sizeC cs c : Nat) : Int) by simp [entF, three, entsOf, sizeC, List.getD, hcl]] at h
  exact h
theorem num_at {w : World} {S : Nat → Prop} {xa : Option Addr} {m xc : Nat} {pl : List Nat} (hp : InN w S (.slice xa m xc) pl) (hm : pl.length = m) : m ≤ xc ∧ xc ≤ maxLen ∧ ∀ i, i < m → ∃ b o, xa = some ⟨b, o, none⟩ ∧ S b ∧ w.cell? ⟨b, o + i, none⟩ = some (.int .i64 ((pl.getD i 0 : Nat) : Int)) := by
  obtain ⟨xa', xc', e8, hxc, hxm, hpr⟩ := hp
  obtain ⟨rfl, -, rfl⟩ := Value.slice.inj e8
  refine ⟨by omega, hxm, fun i hi => ?_⟩
  obtain ⟨b, o, e, hS, hc⟩ := hpr (by omega)
  exact ⟨b, o, e, hS, by have h := hc i (by omega) 0 (by omega); simpa [natF] using h⟩
set_option maxRecDepth 100000 in
set_option maxHeartbeats 8000000 in
theorem src_cheaper (cs : List Cv) (vv qv fv lo : Value) (ea la xa ca : Option Addr) (E ec NL lc m xc r sb n cc : Nat) (pl cols : List Nat) (w : World) (hx : RdIx w (· < w.heap.size) (.slice ea E ec) vv (.slice la NL lc) (indexOf cs)) (hE : cs.length = E) (hNL : (indexOf cs).lists.length = NL)
  (hp : InN w (· < w.heap.size) (.slice xa m xc) pl) (hpm : pl.length = m) (hpl : ∀ j, j < m → pl.getD j 0 < NL) (hx0 : m = 0 → xa = none ∧ xc = 0)
  (hb : SrcBox w sb (.slice ea E ec) vv (.slice la NL lc) qv (.slice xa m xc) r lo fv) (hr : r ≤ m) (hm : m ≤ 1048576) (hco : InN w (· < w.heap.size) (.slice ca n cc) cols) (hcn : cols.length = n) (hcl : ∀ j, j < n → cols.getD j 0 < E) (hn : n ≤ 1048576) (hsz : ∀ c, c < E → sizeC cs c ≤ 1048576) (hll : ∀ L ∈ (indexOf cs).lists, L.length ≤ 1048576) :
  Calls Tryz.prog 157 #[.pointer (some ⟨sb, 0, none⟩), .slice ca n cc] w (CheapP w) := by
 obtain ⟨-, -, hcol⟩ := num_at hco hcn
 obtain ⟨hmx, hmm, hlst⟩ := num_at hp hpm
 have hel : (indexOf cs).ents.length = E := by rw [← hE]; exact ents_len cs
 have hent := hx.ents
 rw [hel] at hent
 have HENT := hid (fun c (hc : c < E) => ent_size (cs := cs) hent hE hc)
 have hec : E ≤ ec ∧ ec ≤ maxLen := by obtain ⟨_, _, e, h1, h2, -⟩ := hent; obtain ⟨-, -, rfl⟩ := Value.slice.inj e; exact ⟨h1, h2⟩
 obtain ⟨lf, ⟨la', lc', e9, hlc, hlm, hlr⟩, hkids⟩ := hx.lists
 obtain ⟨rfl, -, rfl⟩ := Value.slice.inj e9
 have HLL := hid (fun x (hx : x < NL) => (by
  obtain ⟨b, o, e, hbS, hcell⟩ := hlr (by omega)
  obtain ⟨a1, d1, e1, -⟩ := hkids x (by omega)
  have hLm : (indexOf cs).lists.getD x [] ∈ (indexOf cs).lists := by
   have h1 : x < (indexOf cs).lists.length := by omega
   have h2 : (indexOf cs).lists.getD x [] = (indexOf cs).lists[x] := (List.getElem_eq_getD _).symm
   rw [h2]
   exact List.getElem_mem _
  refine ⟨b, o, a1, ((indexOf cs).lists.getD x []).length, d1, e, hbS, ?_, hll _ hLm⟩
  have h := hcell x (by omega) 0 (by omega)
  rw [← e1]
  simpa using h : ∃ b o a1 l1 d1, la = some ⟨b, o, none⟩ ∧ b < w.heap.size ∧ w.cell? ⟨b, o + x, none⟩ = some (.slice a1 l1 d1) ∧ l1 ≤ 1048576))
 have HCOL := hid (fun j (h : j < n) => hcol j h)
 have HLST := hid (fun j (h : j < m) => hlst j h)
 have HCL := hid hcl
 have HPL := hid hpl
 have HSZ := hid hsz
 have HBX := hid hb
 have b0 := BoxN.cell hb 0 rfl
 clear hx hp hb hco hent hcol hlst hlr hkids e9 hcl hpl hsz hll hpm hcn hel
 rw [hNL] at hlc
 clear hNL
 unfold maxLen at *
 by_cases hm0 : m = 0
 ·obtain ⟨rfl, rfl⟩ := hx0 hm0
  subst hm0
  obtain rfl : r = 0 := by omega
  clear hx0
  have HB2 := hid (fun nq => (⟨rfl, rfl, rfl, Nat.le_refl _, fun _ _ => rfl⟩ : Below w.heap.size w (w.drewN nq)))
  go_enter Tryz.func157, Tryz.ntmps157
  generalize hLA : Code.loop _ = LA
  generalize hLB : Code.loop _ = LB
  go_wp2_with fail
  subst hLA
  go_wp2_with fail
  go_loopg [12, 5, 7] n (fun K i z u wr => ∃ (q : Nat) (zi : Int), i = .int .i64 (q : Int) ∧ q + K = n ∧ z = .int .i64 zi ∧ 0 ≤ zi ∧ zi ≤ (q : Int) * 1048576 ∧ wr = w)
  case atStart => exact ⟨0, 0, rfl, by omega, rfl, by omega, by omega, rfl⟩
  case round =>
   obtain ⟨q, zi, rfl, hq, rfl, hz1, hz2, rfl⟩ := hrel
   by_cases hp : 0 < gk
   ·have hqn : (q : Int) < (n : Int) := by omega
    obtain ⟨cb, co, rfl, -, k1⟩ := HCOL.out q (by omega)
    have hcE := HCL.out q (by omega)
    have hsc := HSZ.out _ hcE
    obtain ⟨eb, eo, rfl, -, k2⟩ := HENT.out _ hcE
    generalize sizeC cs (cols.getD q 0) = sz at *
    generalize cols.getD q 0 = c at *
    have hcEi : (c : Int) < (E : Int) := by omega
    have hc0 : (0 : Int) ≤ (c : Int) := by omega
    have hz3 : zi ≤ 1099511627776 := by omega
    go_wp2_with fail
    go_roundg (gk - 1)
    case rel => exact ⟨q + 1, zi + (sz : Int), by go_num, by omega, by go_num, by omega, by omega, rfl⟩
    case measure => omega
   ·obtain rfl : gk = 0 := by omega
    obtain rfl : q = n := by omega
    have b4 := BoxN.cell HBX.out 4 rfl
    have b5 := BoxN.cell HBX.out 5 rfl
    go_wp2_with fail
    go_quiet (fail)
    subst hLB
    clear b4 b5
    go_wp2_with fail
    refine wp_loop_rounds 1 ?_
    rw [rounds_succ]
    go_wp2
    go_ret
    exact ⟨_, rfl, HB2.out _⟩
 ·obtain ⟨pb, po, rfl, -, -⟩ := HLST.out 0 (by omega)
  have HLS : Hid (∀ j, j < m → w.cell? ⟨pb, po + j, none⟩ = some (.int .i64 ((pl.getD j 0 : Nat) : Int))) := hid (fun j hj => by
   obtain ⟨b, o, e, -, h⟩ := HLST.out j hj
   injection e with e
   injection e with e1 e2
   subst e1 e2
   exact h)
  clear hx0 HLST
  have HB2 := hid (fun nq => (⟨rfl, rfl, rfl, Nat.le_refl _, fun _ _ => rfl⟩ : Below w.heap.size w (w.drewN nq)))
  have hri : (r : Int) ≤ (m : Int) := by omega
  have hr0 : (0 : Int) ≤ (r : Int) := by omega
  have hmi : (m : Int) ≤ (xc : Int) := by omega
  go_enter Tryz.func157, Tryz.ntmps157
  generalize hLA : Code.loop _ = LA
  generalize hLB : Code.loop _ = LB
  go_wp2_with fail
  subst hLA
  go_wp2_with fail
  go_loopg [12, 5, 7] n (fun K i z u wr => ∃ (q : Nat) (zi : Int), i = .int .i64 (q : Int) ∧ q + K = n ∧ z = .int .i64 zi ∧ 0 ≤ zi ∧ zi ≤ (q : Int) * 1048576 ∧ wr = w)
  case atStart => exact ⟨0, 0, rfl, by omega, rfl, by omega, by omega, rfl⟩
  case round =>
   obtain ⟨q, zi, rfl, hq, rfl, hz1, hz2, rfl⟩ := hrel
   by_cases hp : 0 < gk
   ·have hqn : (q : Int) < (n : Int) := by omega
    obtain ⟨cb, co, rfl, -, k1⟩ := HCOL.out q (by omega)
    have hcE := HCL.out q (by omega)
    have hsc := HSZ.out _ hcE
    obtain ⟨eb, eo, rfl, -, k2⟩ := HENT.out _ hcE
    generalize sizeC cs (cols.getD q 0) = sz at *
    generalize cols.getD q 0 = c at *
    have hcEi : (c : Int) < (E : Int) := by omega
    have hc0 : (0 : Int) ≤ (c : Int) := by omega
    have hz3 : zi ≤ 1099511627776 := by omega
    go_wp2_with fail
    go_roundg (gk - 1)
    case rel => exact ⟨q + 1, zi + (sz : Int), by go_num, by omega, by go_num, by omega, by omega, rfl⟩
    case measure => omega
   ·obtain rfl : gk = 0 := by omega
    obtain rfl : q = n := by omega
    have b4 := BoxN.cell HBX.out 4 rfl
    have b5 := BoxN.cell HBX.out 5 rfl
    go_wp2_with fail
    go_quiet (fail)
    have hsa : r < m → (if xc = r then some (⟨pb, po, none⟩ : Addr) else some ⟨pb, po + r, none⟩) = some ⟨pb, po + r, none⟩ := fun h => if_neg (by omega)
    generalize (if xc = r then some (⟨pb, po, none⟩ : Addr) else some ⟨pb, po + r, none⟩) = sa at *
    obtain ⟨k, hk⟩ : ∃ k, k = m - r := ⟨_, rfl⟩
    rw [← hk]
    obtain ⟨sx, hsx⟩ : ∃ k, k = xc - r := ⟨_, rfl⟩
    rw [← hsx]
    have hz4 : zi ≤ 1099511627776 := by omega
    have hk2 : k + r = m := by omega
    clear hk hsx hz2 hp hq b4 b5
    obtain ⟨z0, hz0⟩ : ∃ z0, z0 = zi := ⟨_, rfl⟩
    have hz5 : 0 ≤ z0 := by omega
    have hz6 : z0 ≤ 1099511627776 := by omega
    obtain ⟨W1, hW1⟩ : ∃ W1, W1 = wr.drewN nq := ⟨_, rfl⟩
    have HBW := hid (HB2.out nq)
    have HCW : Hid (∀ p, W1.cell? p = wr.cell? p) := hid (by rw [hW1]; intro p; rfl)
    rw [← hW1] at HBW
    rw [← hW1]
    clear hW1 HB2
    subst hLB
    go_wp2_with fail
    go_loopg [38, 5, 9] k (fun K i z u W => ∃ (p : Nat) (y : Int), i = .int .i64 (p : Int) ∧ p + K = k ∧ z = .int .i64 y ∧ -((p : Int) * 1048576) ≤ y ∧ y ≤ 1099511627776 ∧ W = W1)
    case atStart => exact ⟨0, zi, rfl, by omega, rfl, by omega, by omega, rfl⟩
    case round =>
     obtain ⟨p, y, rfl, hp2, rfl, hy1, hy2, rfl⟩ := hrel
     by_cases hp : 0 < gk
     ·have hpk : (p : Int) < (k : Int) := by omega
      obtain rfl := hsa (by omega)
      have k1 := (HCW.out _).trans (HLS.out (r + p) (by omega))
      have hxN := HPL.out (r + p) (by omega)
      rw [← Nat.add_assoc] at k1
      generalize pl.getD (r + p) 0 = x at *
      obtain ⟨lb, lo2, a1, l1, d1, rfl, -, k2, hl1⟩ := HLL.out x hxN
      have hxi : (x : Int) < (NL : Int) := by omega
      have hx0 : (0 : Int) ≤ (x : Int) := by omega
      have b2 := (HCW.out _).trans (BoxN.cell HBX.out 2 rfl)
      have k2 := (HCW.out _).trans k2
      have hpm : p ≤ 1048576 := by omega
      have hy3 : -(1099511627776 : Int) ≤ y := by omega
      go_wp2_with fail
      go_roundg (gk - 1)
      case rel => exact ⟨p + 1, y - (l1 : Int), by go_num, by omega, by go_num, by omega, by omega, rfl⟩
      case measure => omega
     ·obtain rfl : gk = 0 := by omega
      go_wp2
      go_ret
      exact ⟨_, rfl, HBW.out⟩
end Go.Proofs.YtikiimlmoalbcaaGreatDoor

namespace Go.Proofs.YtikiimlmoalbcaaGreatDoor
open Go.RowKit
def valAt (cs : List Cv) (j : Nat) : ByteArray := (setOfL (allOf cs)).getD j ⟨#[]⟩
def vsOf (cs : List Cv) (pl : List Nat) : List ByteArray := pl.map (valAt cs)
def lowsL (cs : List Cv) (vs : List ByteArray) (r : Nat) : List Nat := (List.range cs.length).map (lowC cs vs r)
theorem lowsL_len (cs : List Cv) (vs : List ByteArray) (r : Nat) : (lowsL cs vs r).length = cs.length := by simp [lowsL]
theorem lowsL_at {cs : List Cv} {vs : List ByteArray} {r c : Nat} (hc : c < cs.length) : (lowsL cs vs r).getD c 0 = lowC cs vs r c := by simp [lowsL, List.getD, hc]
theorem lowsL_zero (cs : List Cv) (vs : List ByteArray) : lowsL cs vs 0 = List.replicate cs.length 0 := by
  refine List.ext_getElem (by simp [lowsL]) fun i h1 h2 => ?_
  simp [lowsL, low_zero]
theorem idx_list {cs : List Cv} {j : Nat} (hj : j < (setOfL (allOf cs)).length) : (indexOf cs).lists.getD j [] = listOfV cs (valAt cs j) := by simp [indexOf, List.getD, hj, valAt]
theorem idx_lists (cs : List Cv) : (indexOf cs).lists.length = (setOfL (allOf cs)).length := by simp [indexOf]
theorem lowsL_next {cs : List Cv} {pl : List Nat} {r : Nat} (hr : r < pl.length) (hj : pl.getD r 0 < (setOfL (allOf cs)).length) {ys : List Nat} (h : incL (lowsL cs (vsOf cs pl) r) ((indexOf cs).lists.getD (pl.getD r 0) []) ys) : ys = lowsL cs (vsOf cs pl) (r + 1) := by
  obtain ⟨h1, h2⟩ := h
  rw [lowsL_len] at h1 h2
  refine List.ext_getElem (by rw [h1, lowsL_len]) fun i hi hi2 => ?_
  have hc : i < cs.length := by omega
  have e1 := h2 i hc
  rw [lowsL_at hc, idx_list hj, listOfV_count hc] at e1
  have hv : (vsOf cs pl).length = pl.length := by simp [vsOf]
  have e2 := low_succ cs (vs := vsOf cs pl) (r := r) (by omega) i
  have e3 : (vsOf cs pl).getD r ⟨#[]⟩ = valAt cs (pl.getD r 0) := by simp [vsOf, List.getD, hr]
  rw [e3, ← e1] at e2
  have e4 := lowsL_at (cs := cs) (vs := vsOf cs pl) (r := r + 1) hc
  have e5 : ys.getD i 0 = ys[i] := (List.getElem_eq_getD _).symm
  have e6 : (lowsL cs (vsOf cs pl) (r + 1)).getD i 0 = (lowsL cs (vsOf cs pl) (r + 1))[i] := (List.getElem_eq_getD _).symm
  rw [← e5, ← e6, e4, e2]
structure SrcIn (w0 : World) (cs : List Cv) (q : List ByteArray) (ev vv lv qv : Value) : Prop where
  ok : CvsOk cs
  rd : RdIx w0 (· < w0.heap.size) ev vv lv (indexOf cs)
  qrd : RdS w0 w0.heap.size qv q
  asc : Asc q
  ql : q.length ≤ 1048576
theorem SrcIn.later {w0 w : World} {cs : List Cv} {q : List ByteArray} {ev vv lv qv : Value} (h : SrcIn w0 cs q ev vv lv qv) (hb : Below w0.heap.size w0 w) : SrcIn w cs q ev vv lv qv :=
  ⟨h.ok, (h.rd.keep fun p hp => hb.cell (p := p) hp).more fun b hb' => Nat.lt_of_lt_of_le hb' hb.size, by
    obtain ⟨a, c, e, h1, h2, h3⟩ := h.qrd
    refine ⟨a, c, e, h1, h2, fun hp => ?_⟩
    obtain ⟨b, o, e2, hlt, hcell⟩ := h3 hp
    exact ⟨b, o, e2, Nat.lt_of_lt_of_le hlt hb.size, fun i hi => (hb.cell (p := ⟨b, o + i, none⟩) hlt).trans (hcell i hi)⟩, h.asc, h.ql⟩
theorem SrcIn.vals {w0 : World} {cs : List Cv} {q : List ByteArray} {ev vv lv qv : Value} (h : SrcIn w0 cs q ev vv lv qv) : (setOfL (allOf cs)).length ≤ 268435456 := by
  have h1 := setOfL_len (allOf cs)
  have h2 := all_len (m := 4096) h.ok.len
  have h3 := h.ok.many
  have h4 : cs.length * 4096 ≤ 65536 * 4096 := Nat.mul_le_mul_right _ h3
  omega
structure SrcSt (w0 w : World) (cs : List Cv) (q : List ByteArray) (ev vv lv qv fv : Value) (sb lb : Nat) (xa : Option Addr) (xc cap : Nat) (pl : List Nat) (r : Nat) : Prop where
  box : SrcBox w sb ev vv lv qv (.slice xa pl.length xc) r (.slice (some ⟨lb, 0, none⟩) cs.length cap) fv
  low : RowI w w0.heap.size lb cap cs.length (lowsL cs (vsOf cs pl) r)
  lst : InN w (fun k => (w0.heap.size ≤ k ∧ k < w.heap.size) ∧ k ≠ sb ∧ k ≠ lb) (.slice xa pl.length xc) pl
  nil : pl.length = 0 → xa = none ∧ xc = 0
  lt : ∀ j, j < pl.length → pl.getD j 0 < (setOfL (allOf cs)).length
  ok : ReadOk cs q (vsOf cs pl)
  le : r ≤ pl.length
  ge : w0.heap.size ≤ sb ∧ sb ≠ lb
  below : Below w0.heap.size w0 w
section
variable {w0 w : World} {cs : List Cv} {q : List ByteArray} {ev vv lv qv fv : Value} {sb lb xc cap r : Nat} {xa : Option Addr} {pl : List Nat}
theorem SrcSt.len (h : SrcSt w0 w cs q ev vv lv qv fv sb lb xa xc cap pl r) : pl.length ≤ q.length := by
  have h1 := vs_le h.ok
  simpa [vsOf] using h1
theorem SrcSt.later {W : World} (h : SrcSt w0 w cs q ev vv lv qv fv sb lb xa xc cap pl r) (hb : Below w.heap.size w W) : SrcSt w0 W cs q ev vv lv qv fv sb lb xa xc cap pl r :=
  ⟨SrcBox_below h.box hb, h.low.later hb, (InK.keep h.lst fun p hp => hb.cell (p := p) hp.1.2).more fun b hb' => ⟨⟨hb'.1.1, Nat.lt_of_lt_of_le hb'.1.2 hb.size⟩, hb'.2⟩, h.nil, h.lt, h.ok, h.le, h.ge, h.below.trans (hb.mono h.below.size)⟩
theorem SrcSt.low_le (h : SrcSt w0 w cs q ev vv lv qv fv sb lb xa xc cap pl r) (hq : q.length ≤ 1048576) (j : Nat) : (lowsL cs (vsOf cs pl) r).getD j 0 ≤ 1048576 := by
  by_cases hj : j < cs.length
  · rw [lowsL_at hj]
    have h1 := low_le_com h.ok r j
    have h2 := com_le_q (cs := cs) (q := q) j
    omega
  · have e : (lowsL cs (vsOf cs pl) r).getD j 0 = 0 := by
      have h2 : ¬ j < (lowsL cs (vsOf cs pl) r).length := by rw [lowsL_len]; exact hj
      simp [List.getD, h2]
    omega
end
theorem zeros_row (w : World) (n : Nat) (hn : n ≤ 1048576) (B : Nat) (hB : B ≤ w.heap.size) : RowI (w.alloc (.cells (madeCells #[.int .i64 0] n) 3)) B w.heap.size n n (List.replicate n 0) := by
  refine ⟨by simp, by simp [natsV], .inr ⟨w.heap.size, n, madeCells #[.int .i64 0] n, rfl, hB, heap_alloc_new w _, Nat.le_refl _, by unfold maxLen; omega, by simp [size_madeCells], ?_⟩⟩
  refine List.ext_getElem (by simp [natsV, size_madeCells]) fun i h1 h2 => ?_
  simp [natsV, madeCells, Nat.mod_one]
end Go.Proofs.YtikiimlmoalbcaaGreatDoor
