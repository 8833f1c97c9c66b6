/- Words: a map of numbers to yes and no (HgU without its maps of numbers); plain: what bounded.Follow answers. -/
import Derived.Maps.OwnSet
import Derived.Test.YtikiimlmoalbcaaGreatDoorOOtbk
import Derived.Test.YtikiimlmoalbcaaGreatDoorOOtbg
set_option linter.unusedVariables false
set_option linter.unusedSimpArgs false
namespace Go.Proofs.YtikiimlmoalbcaaGreatDoor
open Go.RowKit
theorem law_intZ : Go.Maps.Keyed Tryz.prog 3 := Go.Maps.int_keyed Tryz.underlying3
def W64 (z : Int) : Prop := -9223372036854775808 ≤ z ∧ z ≤ 9223372036854775807
theorem wf_z {z : Int} (h : W64 z) : (Lit.int .i64 z).wf = true := by
 have e : z = wrap64 z := by unfold wrap64; obtain ⟨h1, h2⟩ := h; omega
 rw [e]
 exact wrap64_wf _
theorem key_z {z : Int} (h : W64 z) : keyOf Tryz.prog 3 (.int .i64 z) = some (.int .i64 z) := Go.Maps.keyOf_int_mk Tryz.underlying3 (wf_z h)
theorem keyLit_z (z : Int) : Go.WideAt.IsKeyLit (.int .i64 z) := by unfold Go.WideAt.IsKeyLit; trivial
structure BOk (D : DataW Unit) (G : Int → Bool) : Prop where
  map : Go.Maps.IsMap D
  has : ∀ z, Go.Maps.has D (.int .i64 z) = G z
  look : ∀ z, D.atKey (.int .i64 z) (.lit (.bool false)) = .lit (.bool (G z))
theorem BOk.start : BOk (.map []) (fun _ => false) := ⟨Go.Maps.isMap_empty, fun s => by simp [Go.Maps.has], fun s => rfl⟩
def setB (G : Int → Bool) (k : Int) : Int → Bool := fun z => if z = k then true else G z
theorem BOk.put {D : DataW Unit} {G : Int → Bool} (h : BOk D G) (k : Int) : BOk (D.put (.int .i64 k) (.lit (.bool true))) (setB G k) := by
 refine ⟨h.map.put _ _, fun t => ?_, fun t => ?_⟩
 ·unfold setB
  by_cases e : t = k
  ·subst e
   rw [if_pos rfl, Go.Maps.has_put_same h.map (keyLit_z _)]
  ·rw [if_neg e, Go.Maps.has_put_other (fun e2 => e (by injection e2))]
   exact h.has t
 ·unfold setB
  by_cases e : t = k
  ·subst e
   rw [if_pos rfl, Go.Maps.atKey_put_same h.map (keyLit_z _)]
  ·rw [if_neg e, Go.Maps.atKey_put_other (fun e2 => e (by injection e2))]
   exact h.look t
def MapB (w : World) (b K : Nat) (G : Int → Bool) : Prop :=
  ∃ D : DataW Unit, w.ownsMap Tryz.prog 3 (plainElem (H := Unit) Tryz.prog 4) b K D ∧ BOk D G ∧ Go.Maps.size D = K
section
variable {w w' : World} {b K : Nat} {G : Int → Bool}
theorem MapB.lt (h : MapB w b K G) : b < w.heap.size := by
 obtain ⟨D, hown, -, -⟩ := h
 exact hown.lt
theorem MapB.later (h : MapB w b K G) (hk : w'.heap[b]? = w.heap[b]?) : MapB w' b K G := by
 obtain ⟨D, ⟨es, clock, hb, Ft, hs, hD⟩, ho, hz⟩ := h
 exact ⟨D, ⟨es, clock, hk.trans hb, Ft, hs, hD⟩, ho, hz⟩
theorem MapB.below {B : Nat} (h : MapB w b K G) (hb : Below B w w') (hl : b < B) : MapB w' b K G := h.later (hb.block b hl)
theorem MapB.grown {row : Option Nat} (h : MapB w b K G) (hg : w.grownBy w' row) (hne : some b ≠ row) : MapB w' b K G := h.later (hg.block b h.lt hne)
theorem MapB.alloc (h : MapB w b K G) (O : Obj) : MapB (w.alloc O) b K G := h.later (Below.heap_alloc _ _ _ h.lt)
theorem MapB.congr {G' : Int → Bool} (h : MapB w b K G) (e : ∀ z, G z = G' z) : MapB w b K G' := by
 have : G = G' := funext e
 subst this
 exact h
theorem MapB.made (w : World) : MapB (w.alloc (.map #[] 0)) w.heap.size 0 (fun _ => false) := ⟨_, World.ownsMap_made w Tryz.prog 3 _, BOk.start, rfl⟩
theorem plain_bool_inv {P : Program} {e : TypeId} (he : P.underlying e = some .bool) {v : Value} {z : DataW Unit × List MemPlace} (h : plainElem P e v = some z) : ∃ a, v = .bool a ∧ z = (.lit (.bool a), []) := by
 unfold plainElem at h
 rw [he] at h
 cases v <;> simp at h
 exact ⟨_, rfl, h.symm⟩
set_option maxRecDepth 100000 in
theorem MapB.look (h : MapB w b K G) {z : Int} (hz : W64 z) : (Instr.lookup 178 (.map (some b)) (.int .i64 z) false).run Tryz.prog w = .ok (.bool (G z)) w := by
 obtain ⟨D, hown, ho, -⟩ := h
 obtain ⟨v, ps, hrun, hv⟩ := hown.lookup law_intZ Tryz.underlying178 (Tryz.zeroValue4 _) (plainElem_bool Tryz.underlying4 false) (key_z hz)
 rw [ho.look z] at hv
 obtain ⟨c, rfl, hc⟩ := plain_bool_inv Tryz.underlying4 hv
 have h1 := (Prod.mk.inj hc).1
 injection h1 with h1
 injection h1 with h1
 rw [hrun, h1]
theorem own_exactB {H : Type} {P : Program} {k : TypeId} {R : Value → Option (DataW H × List MemPlace)} {w : World} {b n m : Nat} {D : DataW H} (h : w.ownsMap P k R b n D) (e : Go.Maps.size D = m) : w.ownsMap P k R b m D := by
 obtain ⟨es, clock, hb, Ft, hs, hD⟩ := h
 refine ⟨es, clock, hb, Ft, ?_, hD⟩
 rw [hD, Go.Maps.size_eq, length_sorted, List.length_map, Array.length_toList] at e
 omega
set_option maxRecDepth 100000 in
theorem MapB.update (h : MapB w b K G) {z : Int} (hz : W64 z) (hK : K < maxLen) :
  ∃ w', (Instr.mapUpdate 178 (.map (some b)) (.int .i64 z) (.bool true)).run Tryz.prog w = .ok () w' ∧ MapB w' b (if G z then K else K + 1) (setB G z) ∧ w.grownBy w' (some b) := by
 obtain ⟨D, hown, ho, hs⟩ := h
 obtain ⟨w', h1, h2, h3⟩ := hown.update law_intZ Tryz.underlying178 hK (key_z hz) (plainElem_bool (H := Unit) Tryz.underlying4 true)
 have h4 : Go.Maps.size (D.put (.int .i64 z) (.lit (.bool true))) = if G z then K else K + 1 := by
  rw [Go.Maps.size_put (hown.tidy law_intZ), ho.has, hs]
 exact ⟨w', h1, ⟨_, own_exactB h2 h4, ho.put z, h4⟩, h3⟩
end
structure MsRd (w : World) (v : Value) (ds : List Mq) : Prop where
  mem : InK 6 w (· < w.heap.size) v ds.length (encF encQ default ds)
  rd : ∀ x ∈ ds, Fr.RdF w x.1.fr false x.1.p x.1.q
  sml : ∀ x ∈ ds, Fr.Sml x.1.p x.1.q
  many : ds.length ≤ 1048576
theorem MsRd.later {w W : World} {v : Value} {ds : List Mq} (h : MsRd w v ds) (hb : Below w.heap.size w W) : MsRd W v ds :=
 ⟨(InK.keep h.mem fun p hp => hb.cell (p := p) hp).more fun k hk => Nat.lt_of_lt_of_le hk hb.size, fun x hx => (h.rd x hx).kept hb, h.sml, h.many⟩
theorem HtsRd.ms {B : Nat} {W : World} {v : Value} {den : Nat → Nat → Nat} {cs : List Cv} {f : Nat → Nat} {H : List Nat} {ds : List Mq} (h : HtsRd B W v den cs f H ds) (hm : ds.length ≤ 1048576) : MsRd W v ds :=
 ⟨h.mem.more fun k hk => hk.2, h.rd, h.sml, hm⟩
def placeM (cs : List Cv) (m : Mh) : Int := findR (refsE (indexOf cs).ents) (m.ta, m.ca) 0
theorem findR_ok : ∀ (l : List (Int × Int)) (r : Int × Int) (k : Nat), findR l r k = -1 ∨ ∃ j, j < l.length ∧ l.getD j (0, 0) = r ∧ findR l r k = ((k + j : Nat) : Int)
 | [], _, _ => .inl rfl
 | a :: l, r, k => by
  rw [findR]
  by_cases h : reqB a r = true
  ·rw [if_pos h]
   refine .inr ⟨0, by simp, ?_, rfl⟩
   unfold reqB at h
   rw [Bool.and_eq_true] at h
   have h1 := of_decide_eq_true h.1
   have h2 := of_decide_eq_true h.2
   show a = r
   exact Prod.ext h1 h2
  ·rw [if_neg h]
   rcases findR_ok l r (k + 1) with h1 | ⟨j, h1, h2, h3⟩
   ·exact .inl h1
   ·refine .inr ⟨j + 1, by simpa using h1, by simpa using h2, ?_⟩
    rw [h3]
    congr 1
    omega
theorem place_ok (cs : List Cv) (m : Mh) : placeM cs m = -1 ∨ ∃ c, c < cs.length ∧ refZ (cs.getD c Cv.z) = (m.ta, m.ca) ∧ placeM cs m = (c : Int) := by
 have hl : (refsE (indexOf cs).ents).length = cs.length := by simp [refsE, indexOf, entsOf]
 rcases findR_ok (refsE (indexOf cs).ents) (m.ta, m.ca) 0 with h | ⟨j, h1, h2, h3⟩
 ·exact .inl h
 ·rw [hl] at h1
  refine .inr ⟨j, h1, ?_, by unfold placeM; rw [h3]; simp⟩
  rw [← h2]
  simp [refsE, indexOf, entsOf, refZ, List.getD, h1]
theorem place_at {cs : List Cv} (hk : CvsOk cs) {m : Mh} {c : Nat} (hc : c < cs.length) (h : refZ (cs.getD c Cv.z) = (m.ta, m.ca)) : placeM cs m = (c : Int) := by
 rcases place_ok cs m with h1 | ⟨d, h1, h2, h3⟩
 ·exfalso
  have hl : (refsE (indexOf cs).ents).length = cs.length := by simp [refsE, indexOf, entsOf]
  have hcl : c < (refsE (indexOf cs).ents).length := by rw [hl]; exact hc
  have e : (refsE (indexOf cs).ents).getD c (0, 0) = (m.ta, m.ca) := by
   rw [← h]
   simp [refsE, indexOf, entsOf, refZ, List.getD, hc]
  have hr : reqB ((refsE (indexOf cs).ents).getD c (0, 0)) (m.ta, m.ca) = true := by rw [e]; simp [reqB]
  have key : ∀ (l : List (Int × Int)) (r : Int × Int) (k j : Nat), j < l.length → reqB (l.getD j (0, 0)) r = true → findR l r k ≠ -1 := by
   intro l
   induction l with
   | nil => intro r k j hj; simp at hj
   | cons a l ih =>
    intro r k j hj hr
    rw [findR]
    split
    ·omega
    ·rename_i hn
     cases j with
     | zero => exact absurd hr hn
     | succ j => exact ih r (k + 1) j (by simpa using hj) (by simpa using hr)
  exact key _ _ 0 c hcl hr h1
 ·rw [h3, cvs_ref hk h1 hc (h2.trans h.symm)]
def hitOkB (cs : List Cv) (den : Nat → Nat → Nat) (kn : Nat → Nat × Nat) (ds : List Mq) (i : Nat) : Bool :=
  decide (0 ≤ placeM cs (ds.getD i default).1) && ((decide (i = 0) || decide (cfM (ds.getD (i - 1) default).1 (ds.getD i default).1 < 0)) &&
    (decide (0 < (kn (placeM cs (ds.getD i default).1).toNat).1) && (decide ((kn (placeM cs (ds.getD i default).1).toNat).1 = (kn (placeM cs (ds.getD i default).1).toNat).2) &&
      decide (Fr.sgn ((kn (placeM cs (ds.getD i default).1).toNat).1 / Nat.gcd (kn (placeM cs (ds.getD i default).1).toNat).1 (den (kn (placeM cs (ds.getD i default).1).toNat).1 (sizeC cs (placeM cs (ds.getD i default).1).toNat)) * (ds.getD i default).1.q)
        ((ds.getD i default).1.p * (den (kn (placeM cs (ds.getD i default).1).toNat).1 (sizeC cs (placeM cs (ds.getD i default).1).toNat) / Nat.gcd (kn (placeM cs (ds.getD i default).1).toNat).1 (den (kn (placeM cs (ds.getD i default).1).toNat).1 (sizeC cs (placeM cs (ds.getD i default).1).toNat)))) = 0))))
def colOkB (cs : List Cv) (kn : Nat → Nat × Nat) (oth : Nat → Bool) (ds : List Mq) (c : Nat) : Bool :=
  !decide (0 < (kn c).2) || (((ds.map fun x => placeM cs x.1).contains (c : Int)) || oth c)
def followB (cs : List Cv) (den : Nat → Nat → Nat) (kn : Nat → Nat × Nat) (oth : Nat → Bool) (ds : List Mq) : Bool :=
  (List.range ds.length).all (hitOkB cs den kn ds) && (List.range cs.length).all (colOkB cs kn oth ds)
theorem all_no {f : Nat → Bool} {n i : Nat} (hi : i < n) (h : f i = false) : (List.range n).all f = false := by
 rw [List.all_eq_false]
 exact ⟨i, List.mem_range.2 hi, by rw [h]; simp⟩
theorem all_yes {f : Nat → Bool} {n : Nat} (h : ∀ i, i < n → f i = true) : (List.range n).all f = true := by
 rw [List.all_eq_true]
 exact fun i hi => h i (List.mem_range.1 hi)
def takenF (cs : List Cv) (ds : List Mq) (p : Nat) : Int → Bool := fun z => ((ds.take p).map fun x => placeM cs x.1).contains z
theorem taken_zero (cs : List Cv) (ds : List Mq) : takenF cs ds 0 = fun _ => false := by
 funext z
 simp [takenF]
theorem taken_succ (cs : List Cv) {ds : List Mq} {p : Nat} (hp : p < ds.length) : takenF cs ds (p + 1) = setB (takenF cs ds p) (placeM cs (ds.getD p default).1) := by
 funext z
 have e : ds.getD p default = ds[p] := by simp [List.getD, hp]
 have hm : (ds.take (p + 1)).map (fun x : Mq => placeM cs x.1) = (ds.take p).map (fun x : Mq => placeM cs x.1) ++ [placeM cs (ds.getD p default).1] := by
  rw [e, List.take_succ_eq_append_getElem hp, List.map_append]
  rfl
 unfold takenF setB
 rw [hm]
 generalize (ds.take p).map (fun x : Mq => placeM cs x.1) = L
 generalize placeM cs (ds.getD p default).1 = y
 by_cases hz : z = y
 ·subst hz
  rw [if_pos rfl, List.contains_iff_mem]
  simp
 ·rw [if_neg hz, Bool.eq_iff_iff, List.contains_iff_mem, List.contains_iff_mem]
  simp [hz]
theorem taken_all (cs : List Cv) (ds : List Mq) (z : Int) : takenF cs ds ds.length z = (ds.map fun x => placeM cs x.1).contains z := by
 unfold takenF
 rw [List.take_length]
end Go.Proofs.YtikiimlmoalbcaaGreatDoor
