/- Contract of copies.text. A map of numbers by texts, in words. DERIVED: THE SHELF's CONTRACTS AT THIS DUMP, IN PLAIN WORDS (tools/lay-plain.mjs out of 'YthblaeleogdfpaaGreatDoorShVL.lean', which tools/lay-shelf.mjs wrote): THE SAME DECLARATIONS UNDER THE SAME NAMES: 'import', 'namespace', 'open', 'def', 'theorem' AND NOTHING ELSE: no command of the shelf's: FOR A HAND-IN. Each laying: the table of numbers ('.._ren') and one theorem, a field a fact of the dump's own or the kernel's comparison; each contract: ONE APPLICATION. Contracts of text.Valid and the reference's Valid; the tables of UTF-8. Contracts of the reference's checks of tables, at valid ones. -/
import Derived.Shelf.Strconv.Itoa3
import Derived.Deep.RegionWith
import Derived.Deep.Cut
import Derived.Deep.CutRange
import Derived.Deep.DeepCutAuto
import Derived.Test.YthblaeleogdfpaaGreatDoorCToad
import Derived.Test.YthblaeleogdfpaaGreatDoorCToae
import Derived.Test.YthblaeleogdfpaaGreatDoorCToab
import Derived.Test.YthblaeleogdfpaaGreatDoorCToac
import Derived.RangeFuncBox
import Derived.RangeFuncLeaves
import Derived.Shelf.Abstract
import Derived.OwnWalkIn
import Derived.TacticsInMore
import Derived.LoopNIn
import Derived.LoopIn
import Derived.Maps.OwnIn
import Derived.Maps.OwnSet
import Derived.Maps.OwnRows
import Derived.Test.YthblaeleogdfpaaGreatDoorProg
import Derived.Test.YthblaeleogdfpaaGreatDoorCToaa
import Derived.Shelf.Unicode.ValidAny
set_option linter.unusedVariables false
set_option linter.unusedSimpArgs false
namespace Go.Proofs.YthblaeleogdfpaaGreatDoor
open Go.RowKit Go.Shelf
theorem isBuilder_keep {T e : TypeId} {B b : Nat} {bs : List Value} {W W' : World} (h : Lib.IsBuilderF T e B b bs W) (hk : ∀ (k : Nat) (o : Obj), W.heap[k]? = some o → W'.heap[k]? = some o) : Lib.IsBuilderF T e B b bs W' := by
 have key : ∀ p, Lib.BuilderAtF T e B b p bs W → Lib.BuilderAtF T e B b p bs W' := by
  rintro p ⟨hB, v, hb, ⟨hl, ho⟩, hne⟩
  refine ⟨hB, v, hk _ _ hb, ⟨hl, ?_⟩, hne⟩
  rcases ho with ho | ⟨g, cap, cur, fz, hv, hbg, hg, r⟩
  ·exact .inl ho
  ·exact .inr ⟨g, cap, cur, fz, hv, hbg, hk _ _ hg, r⟩
 rcases h with h | h
 ·exact .inl (key _ h)
 ·exact .inr (key _ h)
theorem isBuilder_below {T e : TypeId} {B b : Nat} {bs : List Value} {W W' : World} (h : Lib.IsBuilderF T e B b bs W) (hb : Below W.heap.size W W') : Lib.IsBuilderF T e B b bs W' :=
 isBuilder_keep h fun _ _ ho => (hb.block _ (Array.getElem?_eq_some_iff.1 ho).1).trans ho
theorem itoa_nat (i : Nat) : Lib.itoa (i : Int) = Lib.decDigits i := by
 unfold Lib.itoa
 rw [if_neg (by omega)]
 rfl
theorem itoa_anyE (i : Nat) (hi : i ≤ 1048576) (w : World) (hp : Pow w) :
  Calls Tryz.prog 94 #[.int .i64 (i : Int)] w (fun e w' => e = .returned (.string ⟨(Lib.decDigits i).toArray⟩) ∧ Below w.heap.size w w') :=
 (Any.strconv_Itoa Tryz.layItoaM (i : Int) (by omega) (by omega) w hp).mono fun e w' ⟨h, k, os, e2⟩ => ⟨by rw [h, itoa_nat], by rw [e2]; exact below_grow k os⟩
theorem rowAt_succ {xs : List Co} {al : List Nat} {i q : Nat} (h : q < al.length) : encR (rowAt xs (al.take (q + 1)) i) = encR (rowAt xs (al.take q) i) ++ encC (cellAt xs (al.getD q 0) i) := by
 have e : al.take (q + 1) = al.take q ++ [al.getD q 0] := by
  rw [List.take_succ_eq_append_getElem h]
  simp [List.getD, h]
 rw [e]
 simp [rowAt, encR]
theorem dec_two : ∀ n, n < 1025 → (Lib.decDigits n).length ≤ 4 := by decide +kernel
theorem encC_len {c : Cl} (h : CellOk c) : (encC c).length ≤ 1029 := by
 unfold encC
 split
 ·simp
 ·have h1 := dec_two c.text.size (by have := h.2.1; omega)
  have h2 : c.text.data.toList.length = c.text.size := by rw [Array.length_toList]; rfl
  have h3 := h.2.1
  simp only [List.length_append, List.length_singleton]
  omega
theorem encR_len {r : List Cl} (h : ∀ c ∈ r, CellOk c) : (encR r).length ≤ 1029 * r.length := by
 induction r with
 | nil => simp [encR]
 | cons c r ih =>
  unfold encR at *
  rw [List.flatMap_cons, List.length_append, List.length_cons]
  have h1 := encC_len (h c (by simp))
  have h2 := ih fun d hd => h d (by simp [hd])
  omega
theorem str_app (s t : ByteArray) : Lib.strCells (s ++ t) = Lib.strCells s ++ Lib.strCells t := by
 unfold Lib.strCells
 rw [ByteArray.data_append, Array.toList_append, List.map_append]
def txtR (r : List Cl) : ByteArray := ⟨(encR r).toArray⟩
set_option maxRecDepth 100000 in
set_option maxHeartbeats 4000000 in
theorem copies_text (id : Int) (nm : ByteArray) (u v : Value) (xs : List Co) (al : List Nat) (i B : Nat) (w : World) (hu : RdCo w (· < B) u xs) (hv : InK 1 w (· < B) v al.length (fun j _ => .int .i64 ((al.getD j 0 : Nat) : Int))) (hB : B ≤ w.heap.size)
  (hal : ∀ k ∈ al, k < xs.length) (hxl : xs.length ≤ 1048576) (hln : al.length ≤ 1048576) (hrow : ∀ x ∈ xs, i < x.cells.length ∧ x.cells.length ≤ 1048576 ∧ ∀ c ∈ x.cells, CellOk c) (hP : Pow w) :
  Calls Tryz.prog 55 #[.agg #[.int .i64 id, .string nm, u], v, .int .i64 (i : Int)] w (Ret w (.string (txtR (rowAt xs al i)))) := by
 obtain ⟨cv, ⟨a, c, rfl, hc, hm, hr⟩, hkid⟩ := hu
 obtain ⟨a2, c2, rfl, hc2, hm2, hr2⟩ := hv
 have HR := hid hr
 have HR2 := hid hr2
 have HKD := hid hkid
 have HCE : Hid (∀ q, q < al.length → CellOk (cellAt xs (al.getD q 0) i) ∧ al.getD q 0 < xs.length ∧ i < (xs.getD (al.getD q 0) Co.z).cells.length ∧ (xs.getD (al.getD q 0) Co.z).cells.length ≤ 1048576) := hid (fun q hq => by
  have h1 := hal _ (getD_mem hq 0)
  have h2 := hrow _ (getD_mem h1 Co.z)
  exact ⟨h2.2.2 _ (getD_mem h2.1 Cl.z), h1, h2.1, h2.2.1⟩)
 have HES := hid (fun q (h : q < al.length) => rowAt_succ (xs := xs) (i := i) h)
 have HEL : Hid (∀ q, q ≤ al.length → (encR (rowAt xs (al.take q) i)).length ≤ 1078984704) := hid (fun q hq => by
  have h1 := encR_len (r := rowAt xs (al.take q) i) fun c hc => by
   obtain ⟨k, hk, rfl⟩ := List.mem_map.1 hc
   have h2 := hal k (List.mem_of_mem_take hk)
   have h3 := hrow _ (getD_mem h2 Co.z)
   exact h3.2.2 _ (getD_mem h3.1 Cl.z)
  rw [rowAt_len, List.length_take] at h1
  omega)
 have HTA : Hid (encR (rowAt xs (al.take al.length) i) = encR (rowAt xs al i)) := hid (by rw [List.take_length])
 have HP := hid hP
 clear hr hr2 hkid hal hrow hP
 have hx := (BoxN.new w #[.int .i64 id, .string nm, .slice a xs.length c] 24).alloc (.cells #[.pointer none, .slice none 0 0] 150)
 have hb1 : ((w.alloc (.cells #[.int .i64 id, .string nm, .slice a xs.length c] 24)).alloc (.cells #[.pointer none, .slice none 0 0] 150)).heap[w.heap.size + 1]? = some (.cells #[.pointer none, .slice none 0 0] 150 (0, 0)) := by
  have := BoxN.new (w.alloc (.cells #[.int .i64 id, .string nm, .slice a xs.length c] 24)) #[.pointer none, .slice none 0 0] 150
  rw [World.size_alloc] at this
  exact this
 have HI0 : Hid (Lib.IsBuilderF 150 5 (w.heap.size + 1) (w.heap.size + 1) (Lib.byteCells []) ((w.alloc (.cells #[.int .i64 id, .string nm, .slice a xs.length c] 24)).alloc (.cells #[.pointer none, .slice none 0 0] 150))) := hid (.inl ⟨Nat.le_refl _, .slice none 0 0, hb1, ⟨rfl, .inl ⟨rfl, rfl⟩⟩, by simp [Value.ownBlock]⟩)
 have HB0 : Hid (Below (w.heap.size + 1) (w.alloc (.cells #[.int .i64 id, .string nm, .slice a xs.length c] 24)) ((w.alloc (.cells #[.int .i64 id, .string nm, .slice a xs.length c] 24)).alloc (.cells #[.pointer none, .slice none 0 0] 150))) := hid ((Below.refl _ _).alloc (by simp) _)
 have HBW : Hid (Below w.heap.size w (w.alloc (.cells #[.int .i64 id, .string nm, .slice a xs.length c] 24))) := hid ((Below.refl _ _).alloc (Nat.le_refl _) _)
 have HXW := hid (BoxN.new w #[.int .i64 id, .string nm, .slice a xs.length c] 24)
 clear hb1 hx
 generalize hn : xs.length = n at *
 have HN := hid hn
 clear hn
 generalize hln' : al.length = l at *
 have HL := hid hln'
 clear hln'
 unfold maxLen at hm hm2
 go_enter Tryz.func55, Tryz.ntmps55
 generalize hLA : Code.loop _ = LA
 go_wp2_with fail
 have hzw : (w.alloc (.cells #[.int .i64 id, .string nm, .slice a n c] 24)).heap.size = w.heap.size + 1 := by simp
 have hzv : ((w.alloc (.cells #[.int .i64 id, .string nm, .slice a n c] 24)).alloc (.cells #[.pointer none, .slice none 0 0] 150)).heap.size = w.heap.size + 2 := by simp
 generalize (w.alloc (.cells #[.int .i64 id, .string nm, .slice a n c] 24)).alloc (.cells #[.pointer none, .slice none 0 0] 150) = W1 at *
 generalize w.alloc (.cells #[.int .i64 id, .string nm, .slice a n c] 24) = W0 at *
 subst hLA
 go_loopg [13] l (fun N j wr => ∃ q : Nat, q + N = l ∧ j = .int .i64 (q : Int) ∧ Hid (Below (w.heap.size + 1) W0 wr ∧ w.heap.size + 2 ≤ wr.heap.size ∧ Lib.IsBuilderF 150 5 (w.heap.size + 1) (w.heap.size + 1) (Lib.byteCells (encR (rowAt xs (al.take q) i))) wr))
 case atStart => exact ⟨0, by omega, rfl, hid ⟨HB0.out, by omega, HI0.out⟩⟩
 case round =>
  obtain ⟨q, hq, rfl, HST⟩ := hrel
  have hel := HEL.out q (by omega)
  by_cases hp : 0 < gk
  ·obtain ⟨b2, o2, rfl, hb2, hcell2⟩ := HR2.out (by omega)
   obtain ⟨hck, hkn, hir, hrl⟩ := HCE.out q (by omega)
   obtain ⟨b, o, rfl, hb, hcell⟩ := HR.out (by omega)
   have hb' : b < B := hb
   have hb2' : b2 < B := hb2
   have hBW := HBW.out.trans (HST.out.1.mono (Nat.le_succ _))
   have HBQ := hid hBW
   have k0 : wr.cell? ⟨b2, o2 + q, none⟩ = some (.int .i64 ((al.getD q 0 : Nat) : Int)) := (hBW.cell (p := ⟨b2, o2 + q, none⟩) (by show b2 < _; omega)).trans (by have h := hcell2 q (by omega) 0 (by omega); simp only [Nat.mul_one, Nat.add_zero] at h; exact h)
   have x2 := (HXW.out.below HST.out.1 (by omega)).cell 2 rfl
   have k1 : wr.cell? ⟨b, o + al.getD q 0 * 2 + 1, none⟩ = some (cv (al.getD q 0)) := (hBW.cell (p := ⟨b, o + al.getD q 0 * 2 + 1, none⟩) (by show b < _; omega)).trans (hcell _ hkn 1 (by omega))
   obtain ⟨kb, kc, hke, hkc1, hkc2, hkr⟩ := HKD.out _ hkn
   obtain ⟨b3, o3, hkb, hb3, hcell3⟩ := hkr (by omega)
   have hb3' : b3 < B := hb3
   subst hkb
   have k2 : wr.cell? ⟨b3, o3 + i * 2, none⟩ = some (.bool (cellAt xs (al.getD q 0) i).null) := (hBW.cell (p := ⟨b3, o3 + i * 2, none⟩) (by show b3 < _; omega)).trans (hcell3 i hir 0 (by omega))
   have k3 : wr.cell? ⟨b3, o3 + i * 2 + 1, none⟩ = some (.string (cellAt xs (al.getD q 0) i).text) := (hBW.cell (p := ⟨b3, o3 + i * 2 + 1, none⟩) (by show b3 < _; omega)).trans (hcell3 i hir 1 (by omega))
   rw [hke] at k1
   have HE1 := hid (HES.out q (by omega))
   clear hcell hcell2 hcell3 hke hkr hBW
   generalize al.getD q 0 = k at *
   generalize cellAt xs k i = cl at *
   generalize (xs.getD k Co.z).cells.length = rl at *
   generalize hcur : encR (rowAt xs (al.take q) i) = cur at *
   clear hcur
   unfold maxLen at hkc2
   obtain ⟨cn, ct⟩ := cl
   simp only at k2 k3
   have hct := hck.2.1
   simp only at hct
   have HBB := hid (isBuilder_below HST.out.2.2 ((Below.refl wr.heap.size wr).alloc (Nat.le_refl _) (.cells #[.bool cn, .string ct] 104)))
   have HBA := hid (HST.out.1.alloc (by have := HST.out.2.1; omega) (.cells #[.bool cn, .string ct] 104))
   have hcb := BoxN.new wr #[.bool cn, .string ct] 104
   have hza : (wr.alloc (.cells #[.bool cn, .string ct] 104)).heap.size = wr.heap.size + 1 := by simp
   have hzr := HST.out.2.1
   have t0 := hcb.cell 0 rfl
   have t1 := hcb.cell 1 rfl
   have HCB := hid hcb
   clear hcb
   cases cn with
   | true =>
    have hec : encC ⟨true, ct⟩ = [45] := rfl
    rw [hec] at HE1
    have HWS := hid (Tryz.Builder_WriteString_k (w.heap.size + 1) (w.heap.size + 1) (Lib.byteCells cur) ⟨#[45]⟩ (wr.alloc (.cells #[.bool true, .string ct] 104)) HBB.out (by rw [Lib.byteCells_length]; show cur.length + 1 ≤ _; omega) (by omega))
    go_wp2_with fail
    with_reducible refine HWS.out.mono ?_
    rintro e w5 ⟨rfl, hat, hb5, -⟩
    have HB5 := hid (HBA.out.trans hb5)
    have hz5 := hb5.size
    have HI5 : Hid (Lib.IsBuilderF 150 5 (w.heap.size + 1) (w.heap.size + 1) (Lib.byteCells (cur ++ [45])) w5) := hid (.inr (by rw [Lib.byteCells_append]; exact hat))
    clear hat hb5
    go_wp2_with fail
    go_roundg (gk - 1)
    case rel => exact ⟨q + 1, by omega, by go_num, hid ⟨HB5.out, by omega, by rw [HE1.out]; exact HI5.out⟩⟩
    case measure => omega
   | false =>
    have hec : encC ⟨false, ct⟩ = Lib.decDigits ct.size ++ [58] ++ ct.data.toList := rfl
    rw [hec] at HE1
    have HWS := hid (fun W (hW : Below (wr.alloc (.cells #[.bool false, .string ct] 104)).heap.size (wr.alloc (.cells #[.bool false, .string ct] 104)) W) => Tryz.Builder_WriteString_k (w.heap.size + 1) (w.heap.size + 1) (Lib.byteCells cur) ((⟨(Lib.decDigits ct.size).toArray⟩ ++ ⟨#[58]⟩) ++ ct) W (isBuilder_below HBB.out hW) (by
     have h1 := dec_two ct.size (by omega)
     rw [Lib.byteCells_length, ByteArray.size_append, ByteArray.size_append]
     have h2 : (⟨(Lib.decDigits ct.size).toArray⟩ : ByteArray).size = (Lib.decDigits ct.size).length := List.size_toArray
     have h3 : (⟨#[58]⟩ : ByteArray).size = 1 := rfl
     omega) (by have := hW.size; omega))
    have HIT := hid (fun W (hW : Below w.heap.size w W) => itoa_anyE ct.size (by omega) W (HP.out.below hW (Nat.le_refl _)))
    have hds : (⟨(Lib.decDigits ct.size).toArray⟩ : ByteArray).size ≤ 4 := by
     have h2 : (⟨(Lib.decDigits ct.size).toArray⟩ : ByteArray).size = (Lib.decDigits ct.size).length := List.size_toArray
     have h1 := dec_two ct.size (by omega)
     omega
    have hds2 : ((⟨(Lib.decDigits ct.size).toArray⟩ : ByteArray) ++ ⟨#[58]⟩).size ≤ 5 := by
     rw [ByteArray.size_append]
     have h3 : (⟨#[58]⟩ : ByteArray).size = 1 := rfl
     omega
    have HQR := hid (Below.refl (wr.alloc (.cells #[.bool false, .string ct] 104)).heap.size (wr.alloc (.cells #[.bool false, .string ct] 104)))
    have HFI : Hid (∀ W5, Lib.BuilderAtF 150 5 (w.heap.size + 1) (w.heap.size + 1) (.pointer (some ⟨w.heap.size + 1, 0, none⟩)) (Lib.byteCells cur ++ Lib.strCells ((⟨(Lib.decDigits ct.size).toArray⟩ ++ ⟨#[58]⟩) ++ ct)) W5 → Lib.IsBuilderF 150 5 (w.heap.size + 1) (w.heap.size + 1) (Lib.byteCells (encR (rowAt xs (al.take (q + 1)) i))) W5) := hid (fun W5 h => .inr (by
     rw [HE1.out, Lib.byteCells_append, Lib.byteCells_append, Lib.byteCells_append]
     rw [str_app, str_app] at h
     have e1 : Lib.strCells (⟨(Lib.decDigits ct.size).toArray⟩ : ByteArray) = Lib.byteCells (Lib.decDigits ct.size) := rfl
     have e2 : Lib.strCells (⟨#[58]⟩ : ByteArray) = Lib.byteCells [58] := rfl
     have e3 : Lib.strCells ct = Lib.byteCells ct.data.toList := rfl
     rw [e1, e2, e3] at h
     exact h))
    generalize (⟨(Lib.decDigits ct.size).toArray⟩ : ByteArray) = D at *
    have hone : (⟨#[58]⟩ : ByteArray).size = 1 := rfl
    have hA1 : D.size + (⟨#[58]⟩ : ByteArray).size ≤ 9223372036854775807 := by omega
    have hA2 : (D ++ ⟨#[58]⟩).size + ct.size ≤ 9223372036854775807 := by omega
    have hB1 : ¬ (9223372036854775807 < D.size + (⟨#[58]⟩ : ByteArray).size) := by omega
    have hB2 : ¬ (9223372036854775807 < (D ++ ⟨#[58]⟩).size + ct.size) := by omega
    have hB3 : ¬ (9223372036854775807 < D.size + 1) := by omega
    have hB4 : ¬ (9223372036854775807 < D.size + 1 + ct.size) := by omega
    have hB5 : ¬ (9223372036854775807 < D.size + (⟨#[58]⟩ : ByteArray).size + ct.size) := by omega
    have hA3 : D.size + 1 ≤ 9223372036854775807 := by omega
    have hA4 : D.size + 1 + ct.size ≤ 9223372036854775807 := by omega
    have HBWA : Hid (Below w.heap.size w (wr.alloc (.cells #[.bool false, .string ct] 104))) := hid (HBQ.out.alloc (by have := HBQ.out.size; omega) _)
    go_upto_region 8 with fail
    generalize wr.alloc (.cells #[.bool false, .string ct] 104) = W4 at *
    go_region_held3 (fun w' => w'.cell? ⟨wr.heap.size, 1, none⟩ = some (.string ct))
     (first | exact s1 | exact s5 | go_keep)
     (first
      | (go_at_call 94; go_must (((with_reducible refine (HIT.out _ (by have h1 := HBWA.out; have h2 := HBWA.out.size; repeat' (first | (with_reducible exact Below.refl _ _) | (with_reducible assumption) | (with_reducible refine below_drewN ?_) | (with_reducible refine Below.alloc ?_ ?_ _) | (with_reducible refine Below.drew ?_) | (with_reducible refine Below.setCell ?_ ?_ _) | (with_reducible refine Below.trans ?_ (Below.mono (by with_reducible assumption) ?_)) | go_size))).mono ?_); rintro e w5 ⟨rfl, hb5⟩; have HQ5 : Hid (Below W4.heap.size W4 w5) := hid (by repeat' (first | (with_reducible exact Below.refl _ _) | (with_reducible assumption) | (with_reducible refine below_drewN ?_) | (with_reducible refine Below.alloc ?_ ?_ _) | (with_reducible refine Below.drew ?_) | (with_reducible refine Below.setCell ?_ ?_ _) | (with_reducible refine Below.trans ?_ (Below.mono (by with_reducible assumption) ?_)) | go_size)); have s5 := (HCB.out.below HQ5.out (by omega)).cell 1 rfl; clear hb5)))
      | (go_at_call 102; go_must (((with_reducible refine (HWS.out _ (by first | (have h1 := HQ5.out; have h2 := HQ5.out.size; repeat' (first | (with_reducible exact Below.refl _ _) | (with_reducible assumption) | (with_reducible refine below_drewN ?_) | (with_reducible refine Below.alloc ?_ ?_ _) | (with_reducible refine Below.drew ?_) | (with_reducible refine Below.setCell ?_ ?_ _) | (with_reducible refine Below.trans ?_ (Below.mono (by with_reducible assumption) ?_)) | go_size)) | (have h1 := HQR.out; repeat' (first | (with_reducible exact Below.refl _ _) | (with_reducible assumption) | (with_reducible refine below_drewN ?_) | (with_reducible refine Below.alloc ?_ ?_ _) | (with_reducible refine Below.drew ?_) | (with_reducible refine Below.setCell ?_ ?_ _) | (with_reducible refine Below.trans ?_ (Below.mono (by with_reducible assumption) ?_)) | go_size)))).mono ?_); rintro e w6 ⟨rfl, hat, hb6, hk6⟩; have HAT := hid hat; have HB6 : Hid (Below (w.heap.size + 1) W4 w6) := hid (by first | exact hb6 | exact (HQ5.out.mono (by omega)).trans hb6); have HI6 := hid (HFI.out _ hat); have hc6 : BoxN w6 wr.heap.size 104 #[.bool false, .string ct] := hk6 _ _ (by first | exact HCB.out | exact HCB.out.below HQ5.out HCB.out.lt) (by intro e; have := Option.some.inj e; omega) (by intro c fz h; injection h with _ h2; exact absurd h2 (by decide)); have s1 := hc6.cell 1 rfl; clear hat hb6 hk6 hc6))))
    all_goals
     have HB7 := hid (HBA.out.trans (HB6.out.mono (by omega)))
     have hz6 := HB6.out.size
     clear s1 t1
     go_wp2_with fail
     go_roundg (gk - 1)
     case rel => exact ⟨q + 1, by omega, by go_num, hid ⟨HB7.out, by omega, HI6.out⟩⟩
     case measure => omega
  ·obtain rfl : q = l := by omega
   have hst := HST.out.2.2
   rw [HTA.out] at hst
   have HSS := hid (Tryz.Builder_String_any_k (w.heap.size + 1) (w.heap.size + 1) _ wr hst (by have := HST.out.2.1; omega))
   have HBF := hid (HBW.out.trans (HST.out.1.mono (Nat.le_succ _)))
   clear hst hel
   go_wp2_with fail
   with_reducible refine HSS.out.mono ?_
   rintro e w5 ⟨rfl, -, hb5, -⟩
   have HB5 := hid (HBF.out.trans (hb5.mono (Nat.le_succ _)))
   clear hb5
   go_wp2
   go_ret
   exact ⟨rfl, HB5.out⟩
end Go.Proofs.YthblaeleogdfpaaGreatDoor

namespace Go.Proofs.YthblaeleogdfpaaGreatDoor
open Go.RowKit Go.Shelf
attribute [local go_sem] Oper.semAt_some
def keyU (s : ByteArray) : Lit := .string s.data.toList
theorem keyU_inj {s t : ByteArray} (h : keyU s = keyU t) : s = t := by
 obtain ⟨⟨s⟩⟩ := s
 obtain ⟨⟨t⟩⟩ := t
 simp [keyU] at h
 subst h
 rfl
theorem law_strU : Go.Maps.Keyed Tryz.prog 9 := Go.Maps.string_keyed Tryz.underlying9
structure NumOk (D : DataW Unit) (F : ByteArray → Option Nat) : Prop where
  map : Go.Maps.IsMap D
  has : ∀ s, Go.Maps.has D (keyU s) = (F s).isSome
  look : ∀ s, D.atKey (keyU s) (.lit (.int .i64 0)) = .lit (.int .i64 (((F s).getD 0 : Nat) : Int))
theorem NumOk.start : NumOk (.map []) (fun _ => none) := ⟨Go.Maps.isMap_empty, fun s => by simp [Go.Maps.has], fun s => rfl⟩
def setF1 (F : ByteArray → Option Nat) (s : ByteArray) (i : Nat) : ByteArray → Option Nat := fun t => if t = s then some i else F t
theorem NumOk.put {D : DataW Unit} {F : ByteArray → Option Nat} (h : NumOk D F) (s : ByteArray) (i : Nat) : NumOk (D.put (keyU s) (.lit (.int .i64 (i : Int)))) (setF1 F s i) := by
 have hk : Go.WideAt.IsKeyLit (keyU s) := by unfold keyU Go.WideAt.IsKeyLit; trivial
 refine ⟨h.map.put _ _, fun t => ?_, fun t => ?_⟩
 ·unfold setF1
  by_cases e : t = s
  ·subst e
   rw [if_pos rfl, Go.Maps.has_put_same h.map hk]; rfl
  ·rw [if_neg e, Go.Maps.has_put_other (fun e2 => e (keyU_inj e2))]
   exact h.has t
 ·unfold setF1
  by_cases e : t = s
  ·subst e
   rw [if_pos rfl, Go.Maps.atKey_put_same h.map hk]; rfl
  ·rw [if_neg e, Go.Maps.atKey_put_other (fun e2 => e (keyU_inj e2))]
   exact h.look t
def MapI (w : World) (b n : Nat) (F : ByteArray → Option Nat) : Prop :=
  ∃ D : DataW Unit, w.ownsMap Tryz.prog 9 (plainElem (H := Unit) Tryz.prog 3) b n D ∧ NumOk D F
section
variable {w w' : World} {b n : Nat} {F : ByteArray → Option Nat}
theorem MapI.later (h : MapI w b n F) (hk : w'.heap[b]? = w.heap[b]?) : MapI w' b n F := by
 obtain ⟨D, ⟨es, clock, hb, Ft, hs, hD⟩, ho⟩ := h
 exact ⟨D, ⟨es, clock, hk.trans hb, Ft, hs, hD⟩, ho⟩
theorem MapI.lt (h : MapI w b n F) : b < w.heap.size := by
 obtain ⟨D, hown, ho⟩ := h
 exact hown.lt
theorem MapI.drewN (h : MapI w b n F) (k : Nat) : MapI (w.drewN k) b n F := h.later rfl
theorem MapI.congr {F' : ByteArray → Option Nat} (h : MapI w b n F) (e : ∀ s, F s = F' s) : MapI w b n F' := by
 have : F = F' := funext e
 subst this
 exact h
theorem key_str {s : ByteArray} (hs : s.size ≤ maxLen) : keyOf Tryz.prog 9 (.string s) = some (keyU s) := Go.WideMaps.keyOf_string_mk Tryz.underlying9 hs
set_option maxRecDepth 100000 in
theorem MapI.look (h : MapI w b n F) {s : ByteArray} (hs : s.size ≤ maxLen) : (Instr.lookup 97 (.map (some b)) (.string s) false).run Tryz.prog w = .ok (.int .i64 (((F s).getD 0 : Nat) : Int)) w := by
 obtain ⟨D, hown, ho⟩ := h
 obtain ⟨c, hrun, hat, hwc⟩ := hown.lookup_int law_strU Tryz.underlying97 Tryz.underlying3 (Tryz.zeroValue3 _) (key_str hs)
 rw [ho.look s] at hat
 injection hat with hat
 injection hat with _ hat
 rw [hrun, ← hat]
theorem MapI.made (w : World) : MapI (w.alloc (.map #[] 0)) w.heap.size 0 (fun _ => none) := ⟨_, World.ownsMap_made w Tryz.prog 9 _, NumOk.start⟩
end
end Go.Proofs.YthblaeleogdfpaaGreatDoor

namespace Go.Proofs
open Go.Shelf
def Tryz.layValid_ren : Go.Shelf.Ren := ⟨fun | 196 => 205 | 259 => 263 | n => n, fun | 9 => 9 | 4 => 4 | 3 => 3 | 5 => 5 | 12 => 12 | 119 => 274 | 0 => 0 | 46 => 143 | 139 => 277 | 138 => 276 | 53 => 194 | n => n, fun | 3 => 1 | 4 => 2 | n => n⟩
theorem Tryz.layValid : Go.Proofs.Lays.n196 Tryz.prog Tryz.layValid_ren := {
 mixed := by kernel_rfl
 f196 := Tryz.func205.trans (congrArg some (by kernel_rfl))
 f259 := Tryz.func263.trans (congrArg some (by kernel_rfl))
 t0 := Tryz.underlying0
 a0 := Tryz.isAgg0
 z0 := Tryz.sizeOf0
 v0 := Tryz.zeroValue0
 t3 := Tryz.underlying3
 a3 := Tryz.isAgg3
 z3 := Tryz.sizeOf3
 v3 := Tryz.zeroValue3
 t4 := Tryz.underlying4
 a4 := Tryz.isAgg4
 z4 := Tryz.sizeOf4
 v4 := Tryz.zeroValue4
 t5 := Tryz.underlying5
 a5 := Tryz.isAgg5
 z5 := Tryz.sizeOf5
 v5 := Tryz.zeroValue5
 t9 := Tryz.underlying9
 a9 := Tryz.isAgg9
 z9 := Tryz.sizeOf9
 v9 := Tryz.zeroValue9
 t12 := Tryz.underlying12
 a12 := Tryz.isAgg12
 z12 := Tryz.sizeOf12
 v12 := Tryz.zeroValue12
 t46 := Tryz.underlying143
 a46 := Tryz.isAgg143
 z46 := Tryz.sizeOf143
 v46 := Tryz.zeroValue143
 t53 := Tryz.underlying194
 a53 := Tryz.isAgg194
 z53 := Tryz.sizeOf194
 v53 := Tryz.zeroValue194
 t119 := Tryz.underlying274
 a119 := Tryz.isAgg274
 z119 := Tryz.sizeOf274
 t138 := Tryz.underlying276
 a138 := Tryz.isAgg276
 z138 := Tryz.sizeOf276
 v138 := Tryz.zeroValue276
 t139 := Tryz.underlying277
 a139 := Tryz.isAgg277
 z139 := Tryz.sizeOf277
 v139 := Tryz.zeroValue277
 g3 := by kernel_rfl
 g4 := by kernel_rfl }
end Go.Proofs

namespace Go.Proofs.YthblaeleogdfpaaGreatDoor
open Go.RowKit Go.Shelf
def Tabs (w : World) : Prop := Lib.Utf8Tabs 1 2 w
theorem Tabs.below {w w' : World} (h : Tabs w) (hb : Below w.heap.size w w') : Tabs w' := Utf8Tabs_below h hb
theorem text_Valid (s : ByteArray) (w : World) (hs : s.size ≤ 9223372036854775807) (hT : Tabs w) : Calls Tryz.prog 152 #[.string s] w (Ret w (.bool (Lib.validD s.data.toList))) := by
 have HV : Hid (∀ W, Tabs W → Calls Tryz.prog 205 #[.string s] W (Ret W (.bool (Lib.validD s.data.toList)))) := hid (fun W h => Any.utf8_ValidString Tryz.layValid s W (by omega) h)
 have HT := hid hT
 clear hT
 generalize Lib.validD s.data.toList = b at *
 go_enter Tryz.func152, Tryz.ntmps152
 go_wp2_with fail
 with_reducible refine (HV.out _ HT.out).mono ?_
 rintro e w1 ⟨rfl, hb⟩
 go_wp2
 go_ret
 exact ⟨rfl, hb⟩
theorem ref_Valid (s : ByteArray) (w : World) (hs : s.size ≤ 9223372036854775807) (hT : Tabs w) : Calls Tryz.prog 154 #[.string s] w (Ret w (.bool (Lib.validD s.data.toList))) := by
 have HV : Hid (∀ W, Tabs W → Calls Tryz.prog 205 #[.string s] W (Ret W (.bool (Lib.validD s.data.toList)))) := hid (fun W h => Any.utf8_ValidString Tryz.layValid s W (by omega) h)
 have HT := hid hT
 clear hT
 generalize Lib.validD s.data.toList = b at *
 go_enter Tryz.func154, Tryz.ntmps154
 go_wp2_with fail
 with_reducible refine (HV.out _ HT.out).mono ?_
 rintro e w1 ⟨rfl, hb1⟩
 have HB1 := hid hb1
 clear hb1
 go_wp2
 go_ret
 exact ⟨rfl, HB1.out⟩
end Go.Proofs.YthblaeleogdfpaaGreatDoor

namespace Go.Proofs.YthblaeleogdfpaaGreatDoor
open Go.RowKit
theorem ref_name (s : ByteArray) (w : World) (h : TextOk 1024 s) (hT : Tabs w) : Calls Tryz.prog 104 #[.string s] w (Ret w (.bool true)) := by
 have HV := hid (ref_Valid s w (by have := h.1; omega) hT)
 rw [h.2] at HV
 have hs := h.1
 clear h hT
 go_enter Tryz.func104, Tryz.ntmps104
 go_wp2_with fail
 with_reducible refine HV.out.mono ?_
 rintro e w1 ⟨rfl, hb⟩
 have HB := hid hb
 clear hb
 go_wp2
 go_ret
 exact ⟨ret_bool (decide_eq_true (by omega)), HB.out⟩
set_option maxHeartbeats 400000 in
theorem ref_ValidCell (c : Cl) (w : World) (hc : CellOk c) (hT : Tabs w) : Calls Tryz.prog 105 #[.agg #[.bool c.null, .string c.text]] w (Ret w (.bool true)) := by
 obtain ⟨n, t⟩ := c
 obtain ⟨hn, ht, hv⟩ := hc
 have hb0 : Below w.heap.size w (w.alloc (.cells #[.bool n, .string t] 104)) := (Below.refl _ _).alloc (Nat.le_refl _) _
 have HV := hid (ref_Valid t (w.alloc (.cells #[.bool n, .string t] 104)) (by simp at ht; omega) (hT.below hb0))
 simp only at hv ht hn
 rw [hv] at HV
 have hx := BoxN.new w #[.bool n, .string t] 104
 have HB0 := hid hb0
 clear hT hb0 hv
 cases n
 ·clear hn
  go_enter Tryz.func105, Tryz.ntmps105
  go_wp2_with fail
  with_reducible refine HV.out.mono ?_
  rintro e w1 ⟨rfl, hb⟩
  have hx1 := hx.below hb (by simp)
  have c0 := hx1.cell 0 rfl
  have c1 := hx1.cell 1 rfl
  have HB := hid (HB0.out.trans (hb.mono (by simp)))
  clear hb hx1 hx
  go_wp2
  go_ret
  exact ⟨rfl, HB.out⟩
 ·obtain rfl := hn rfl
  go_enter Tryz.func105, Tryz.ntmps105
  go_wp2_with fail
  with_reducible refine HV.out.mono ?_
  rintro e w1 ⟨rfl, hb⟩
  have hx1 := hx.below hb (by simp)
  have c0 := hx1.cell 0 rfl
  have c1 := hx1.cell 1 rfl
  have HB := hid (HB0.out.trans (hb.mono (by simp)))
  clear hb hx1 hx hn
  go_wp2
  go_ret
  exact ⟨rfl, HB.out⟩
set_option maxRecDepth 100000 in
set_option maxHeartbeats 2000000 in
theorem ref_ValidTab (t : Ta) (v : Value) (B : Nat) (w : World) (ht : TabV t) (hv : RdCo w (· < B) v t.cols) (hB : B ≤ w.heap.size) (hT : Tabs w) :
  Calls Tryz.prog 56 #[.agg #[.int .i64 t.id, .string t.name, v]] w (Ret w (.bool true)) := by
 obtain ⟨id, nm, xs⟩ := t
 obtain ⟨h0, h1, hnm, hxs, n, hn, hcs⟩ := ht
 simp only at h0 h1 hnm hxs hcs hv
 obtain ⟨cv, hcv, hcl⟩ := hv
 obtain ⟨a, k, rfl, hk, hm, hrd⟩ := hcv
 have hb0 : Below w.heap.size w (w.alloc (.cells #[.int .i64 id, .string nm, .slice a xs.length k] 24)) := (Below.refl _ _).alloc (Nat.le_refl _) _
 have HN := hid (ref_name nm (w.alloc (.cells #[.int .i64 id, .string nm, .slice a xs.length k] 24)) hnm (hT.below hb0))
 have hx := BoxN.new w #[.int .i64 id, .string nm, .slice a xs.length k] 24
 have HB0 := hid hb0
 have HT := hid hT
 have HRD := hid hrd
 have HCL := hid hcl
 have HCS := hid hcs
 clear hb0 hT hrd hcl hcs hnm
 generalize hxl : xs.length = L at *
 have HXL := hid hxl
 clear hxl
 unfold maxLen at hm
 go_enter Tryz.func56, Tryz.ntmps56
 generalize hLA : Code.loop _ = LA
 go_wp2_with fail
 with_reducible refine HN.out.mono ?_
 rintro e w1 ⟨rfl, hb⟩
 have hx1 := hx.below hb (by simp)
 have c0 := hx1.cell 0 rfl
 have c1 := hx1.cell 1 rfl
 have c2 := hx1.cell 2 rfl
 have HX1 := hid hx1
 have HB1 := hid (HB0.out.trans (hb.mono (by simp)))
 have hz1 := hx1.lt
 clear hb hx1 hx HN
 go_wp2_with fail
 clear c0 c1 c2
 subst hLA
 go_loopg [30] L (fun N i wr => ∃ q : Nat, q + N = L ∧ i = .int .i64 (q : Int) ∧ Hid (Below w1.heap.size w1 wr))
 case atStart => exact ⟨0, by omega, rfl, hid (Below.refl _ _)⟩
 case round =>
  obtain ⟨q, hq, rfl, HB⟩ := hrel
  by_cases hp : 0 < gk
  ·obtain ⟨b, o, rfl, hb, hcell⟩ := HRD.out (by omega)
   have hbw : b < w.heap.size := by omega
   have HBW := hid (HB1.out.trans (HB.out.mono HB1.out.size))
   have hwz := HBW.out.size
   have hwz1 := HB.out.size
   obtain ⟨hxn, hxl, hxc⟩ := HCS.out _ (getD_mem (l := xs) (i := q) (by have := HXL.out; omega) Co.z)
   obtain ⟨-, hxl0, -⟩ := HCS.out _ (getD_mem (l := xs) (i := 0) (by have := HXL.out; omega) Co.z)
   have HRQ := hid (HCL.out q (by omega))
   obtain ⟨ca, ck, hcq, -, -, -⟩ := HCL.out q (by omega)
   obtain ⟨ca0, ck0, hc0, -, -, -⟩ := HCL.out 0 (by omega)
   rw [hxl] at hcq
   rw [hxl0] at hc0
   have k0 : wr.cell? ⟨b, o + q * 2, none⟩ = some (.string (xs.getD q Co.z).name) := (HBW.out.cell (p := ⟨b, o + q * 2, none⟩) hbw).trans (hcell q (by omega) 0 (by omega))
   have k1 : wr.cell? ⟨b, o + q * 2 + 1, none⟩ = some (cv q) := (HBW.out.cell (p := ⟨b, o + q * 2 + 1, none⟩) hbw).trans (hcell q (by omega) 1 (by omega))
   have k2 : wr.cell? ⟨b, o + 1, none⟩ = some (cv 0) := (HBW.out.cell (p := ⟨b, o + 1, none⟩) hbw).trans (by have := hcell 0 (by omega) 1 (by omega); simp only [Nat.zero_mul, Nat.add_zero] at this; exact this)
   have k3 := (HX1.out.below HB.out hz1).cell 2 rfl
   rw [hcq] at k1
   rw [hc0] at k2
   rw [hcq] at HRQ
   have HXN := hid hxn
   have HXC := hid hxc
   have HXL2 := hid hxl
   clear hcell hcq hc0 hxl0 hxn hxc hxl
   generalize xs.getD q Co.z = x at *
   obtain ⟨xn, xc⟩ := x
   have HNM := hid (fun W h => ref_name xn W HXN.out h)
   have HCC := hid (fun c h W hW => ref_ValidCell c W (HXC.out c h) hW)
   have n0 : ∀ O : Obj, (wr.alloc O).cell? ⟨b, o + 1, none⟩ = some (.slice ca0 n ck0) := fun O => (World.cell?_alloc_lt _ _ _ (by show b < _; omega)).trans k2
   have n1 : ∀ O : Obj, (wr.alloc O).cell? ⟨w.heap.size, 2, none⟩ = some (.slice (some ⟨b, o, none⟩) L k) := fun O => (World.cell?_alloc_lt _ _ _ (by show w.heap.size < _; omega)).trans k3
   have n2 := n0 (.cells #[.string xn, .slice ca n ck] 30)
   have n3 := n1 (.cells #[.string xn, .slice ca n ck] 30)
   clear n0 n1
   have hd : decide ((4096 : Int) < (n : Int)) = false := by simp; omega
   have hL0 : 0 < L := by omega
   have hL1 : (0 : Int) < (L : Int) := by omega
   have hL2 : L ≠ 0 := by omega
   go_wp2_with fail
   go_region_held3 (fun w' => w'.cell? ⟨wr.heap.size, 0, none⟩ = some (.string xn) ∧ w'.cell? ⟨wr.heap.size, 1, none⟩ = some (.slice ca n ck) ∧ w'.cell? ⟨b, o + 1, none⟩ = some (.slice ca0 n ck0) ∧ w'.cell? ⟨w.heap.size, 2, none⟩ = some (.slice (some ⟨b, o, none⟩) L k))
    (first | exact ⟨o0, o1, o2, o3⟩ | go_keep)
    (first
     | (go_at_call 104; go_must (((with_reducible refine (HNM.out _ (HT.out.below (by have := HBW.out; repeat' (first | (with_reducible exact Below.refl _ _) | (with_reducible assumption) | (with_reducible refine below_drewN ?_) | (with_reducible refine Below.alloc ?_ ?_ _) | (with_reducible refine Below.drew ?_) | (with_reducible refine Below.setCell ?_ ?_ _) | (with_reducible refine Below.trans ?_ (Below.mono (by with_reducible assumption) ?_)) | go_size)))).mono ?_); rintro e w5 ⟨rfl, hb5⟩; have o0 := cell_later hb5 (a := ⟨wr.heap.size, 0, none⟩) (v := .string xn) (by go_cell); have o1 := cell_later hb5 (a := ⟨wr.heap.size, 1, none⟩) (v := .slice ca n ck) (by go_cell); have o2 := cell_later hb5 (a := ⟨b, o + 1, none⟩) (v := .slice ca0 n ck0) (by go_cell); have o3 := cell_later hb5 (a := ⟨w.heap.size, 2, none⟩) (v := .slice (some ⟨b, o, none⟩) L k) (by go_cell)))))
   have HB5 : Hid (Below wr.heap.size wr w5) := hid (by repeat' (first | (with_reducible exact Below.refl _ _) | (with_reducible assumption) | (with_reducible refine below_drewN ?_) | (with_reducible refine Below.alloc ?_ ?_ _) | (with_reducible refine Below.drew ?_) | (with_reducible refine Below.setCell ?_ ?_ _) | (with_reducible refine Below.trans ?_ (Below.mono (by with_reducible assumption) ?_)) | go_size))
   have HBW5 := hid (HBW.out.trans (HB5.out.mono hwz))
   have HBI := hid (HB.out.trans (HB5.out.mono hwz1))
   have hz5 := HB5.out.size
   clear hb5 o0 o2 o3 n2 n3 k0 k1 k2 k3 hd
   obtain ⟨wo, rfl⟩ : ∃ wo, wo = wr := ⟨wr, rfl⟩
   obtain ⟨ko, rfl⟩ : ∃ ko, ko = gk := ⟨gk, rfl⟩
   obtain ⟨ca', ck', hce, -, -, hrc⟩ := HRQ.out
   simp only at hrc hce
   rw [HXL2.out] at hrc hce
   obtain ⟨rfl, -, rfl⟩ := Value.slice.inj hce
   have HRC := hid hrc
   clear hrc hce HRQ
   go_wp2_with fail
   go_loopg [59] n (fun N i W => ∃ j : Nat, j + N = n ∧ i = .int .i64 (j : Int) ∧ Hid (Below w5.heap.size w5 W))
   case atStart => exact ⟨0, by omega, rfl, hid (by have := Below.refl w5.heap.size w5; repeat' (first | (with_reducible exact Below.refl _ _) | (with_reducible assumption) | (with_reducible refine below_drewN ?_) | (with_reducible refine Below.alloc ?_ ?_ _) | (with_reducible refine Below.drew ?_) | (with_reducible refine Below.setCell ?_ ?_ _) | (with_reducible refine Below.trans ?_ (Below.mono (by with_reducible assumption) ?_)) | go_size))⟩
   case round =>
    obtain ⟨j, hj, rfl, HBJ⟩ := hrel
    by_cases hpj : 0 < gk
    ·obtain ⟨b2, o2, rfl, hb2, hcell2⟩ := HRC.out (by omega)
     have hbw2 : b2 < w.heap.size := by omega
     have hjz := HBJ.out.size
     have HBWJ := hid (HBW5.out.trans (HBJ.out.mono HBW5.out.size))
     have k0 : wr.cell? ⟨b2, o2 + j * 2, none⟩ = some (.bool (xc.getD j Cl.z).null) := (HBWJ.out.cell (p := ⟨b2, o2 + j * 2, none⟩) hbw2).trans (hcell2 j (by omega) 0 (by omega))
     have k1 : wr.cell? ⟨b2, o2 + j * 2 + 1, none⟩ = some (.string (xc.getD j Cl.z).text) := (HBWJ.out.cell (p := ⟨b2, o2 + j * 2 + 1, none⟩) hbw2).trans (hcell2 j (by omega) 1 (by omega))
     have HCJ := hid (HCC.out _ (getD_mem (l := xc) (i := j) (by have h : xc.length = n := HXL2.out; omega) Cl.z))
     clear hcell2
     generalize xc.getD j Cl.z = c at *
     obtain ⟨cn, ct⟩ := c
     go_wp2_with fail
     with_reducible refine (HCJ.out _ (HT.out.below (by have := HBWJ.out; repeat' (first | (with_reducible exact Below.refl _ _) | (with_reducible assumption) | (with_reducible refine below_drewN ?_) | (with_reducible refine Below.alloc ?_ ?_ _) | (with_reducible refine Below.drew ?_) | (with_reducible refine Below.setCell ?_ ?_ _) | (with_reducible refine Below.trans ?_ (Below.mono (by with_reducible assumption) ?_)) | go_size)))).mono ?_
     rintro e w6 ⟨rfl, hb6⟩
     have HB6 : Hid (Below wr.heap.size wr w6) := hid (by repeat' (first | (with_reducible exact Below.refl _ _) | (with_reducible assumption) | (with_reducible refine below_drewN ?_) | (with_reducible refine Below.alloc ?_ ?_ _) | (with_reducible refine Below.drew ?_) | (with_reducible refine Below.setCell ?_ ?_ _) | (with_reducible refine Below.trans ?_ (Below.mono (by with_reducible assumption) ?_)) | go_size))
     clear hb6 k0 k1
     go_wp2_with fail
     go_roundg (gk - 1)
     case rel => exact ⟨j + 1, by omega, by go_num, hid (HBJ.out.trans (HB6.out.mono hjz))⟩
     case measure => omega
    ·obtain rfl : j = n := by omega
     go_wp2_with fail
     go_roundg (ko - 1)
     case rel => exact ⟨q + 1, by omega, by go_num, hid (HBI.out.trans (HBJ.out.mono (by omega)))⟩
     case measure => omega
  ·obtain rfl : q = L := by omega
   go_wp2
   go_ret
   exact ⟨rfl, HB1.out.trans (HB.out.mono HB1.out.size)⟩
end Go.Proofs.YthblaeleogdfpaaGreatDoor
