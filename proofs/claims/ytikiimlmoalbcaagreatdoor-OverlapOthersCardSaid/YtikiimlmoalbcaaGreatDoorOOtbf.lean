/- Contract of bounded.Top$1: the rest of a search for the first hits. -/
import Derived.Deep.RegionHeld3
import Derived.Deep.Cut
import Derived.Deep.CutRange
import Derived.Test.YtikiimlmoalbcaaGreatDoorOOtbe
set_option linter.unusedVariables false
set_option linter.unusedSimpArgs false
namespace Go.Proofs.YtikiimlmoalbcaaGreatDoor
open Go.RowKit
theorem tkbf {P : Program} {ops : Array Oper} {Q : Exit → Act → World → Prop} {md : Region.Mode} {S : World → Prop} {i : Nat} {oi : Oper} {v : Value} {fuel : Nat} {listed : Array Bool} {a : Act} {w : World} (a1 : ops[i]? = some oi := by simp only [List.getElem?_toArray, List.getElem?_cons_zero, List.getElem?_cons_succ]; rfl)
    (a2 : Region.noSelect ops = true := by kernel_rfl) (a3 : Region.free md ops listed i = true := by kernel_rfl) (a4 : (Region.ready md ops listed).contains i = true := by kernel_rfl) (a5 : ∀ (c : List PanicEntry) (a : Act) (w : World), Q (Exit.panic c) (a.put oi.dst v) w → Q (Exit.panic c) a w := by intro _ _ _ h; exact h)
    (y : YieldsIf P ops S oi v a) (a6 : S w := by assumption) (z : wpAnyH P md ops Q S fuel (listed.setIfInBounds i true) (a.put oi.dst v) w) : wpAnyH P md ops Q S (fuel + 1) listed a w := wpAnyH_take a1 a2 a3 a4 a5 y a6 z
theorem csbf {P : Program} {ops : Array Oper} {Q : Exit → Act → World → Prop} {md : Region.Mode} {S : World → Prop} {fuel : Nat} {listed : Array Bool} {a : Act} {w : World} {i : Nat} {o : Oper} {rs : List Nat} (a1 : ops[i]? = some o := by simp only [List.getElem?_toArray, List.getElem?_cons_zero, List.getElem?_cons_succ]; rfl)
    (x : ∀ (K' : Act → World → Prop), Shut (∀ (a : Act) (w : World), S w → (S w → wpAnyH P md ops Q S fuel (listed.setIfInBounds i true) a w) → K' a w) → if Region.wanted o (yielded ops a.tmps) = true then Oper.wp P o a w K' Q else K' (a.put o.dst undef) w)
    (y : AllReadyH P md ops Q S fuel listed a w rs) : AllReadyH P md ops Q S fuel listed a w (i :: rs) := AllReadyH.cons a1 x y
def upF (f : Nat → Bool) (p : Nat) : List Nat := (List.range p).filter f
theorem upF_yes {f : Nat → Bool} {p : Nat} (h : f p = true) : upF f (p + 1) = upF f p ++ [p] := by
 unfold upF
 rw [List.range_succ, List.filter_append, List.filter_cons, List.filter_nil, if_pos h]
theorem upF_no {f : Nat → Bool} {p : Nat} (h : f p = false) : upF f (p + 1) = upF f p := by
 unfold upF
 rw [List.range_succ, List.filter_append, List.filter_cons, List.filter_nil, if_neg (by rw [h]; simp), List.append_nil]
theorem upF_nodup (f : Nat → Bool) (p : Nat) : (upF f p).Nodup := List.nodup_range.sublist List.filter_sublist
theorem upF_len (f : Nat → Bool) (p : Nat) : (upF f p).length ≤ p := Nat.le_trans (List.length_filter_le _ _) (by simp)
theorem upF_mem {f : Nat → Bool} {p c : Nat} : c ∈ upF f p ↔ c < p ∧ f c = true := by
 unfold upF
 rw [List.mem_filter, List.mem_range]
theorem upF_up (f : Nat → Bool) (p : Nat) : (upF f p).Pairwise (· ≤ ·) := (List.pairwise_le_range).sublist List.filter_sublist
def sureB (cs : List Cv) (vs : List ByteArray) (r c : Nat) : Bool := decide (0 < lowC cs vs r c)
def mayB (den : Nat → Nat → Nat) (cs : List Cv) (vs : List ByteArray) (r t i : Nat) : Bool := decide (0 < bestC cs vs r i) && decide (lowC cs vs r t * den (bestC cs vs r i) (sizeC cs i) ≤ bestC cs vs r i * den (lowC cs vs r t) (sizeC cs t))
def GoodT (den : Nat → Nat → Nat) (cs : List Cv) (vs : List ByteArray) (k r : Nat) (cols : List Nat) : Prop :=
  ∃ SS : List Nat, SS.Pairwise (befH den (sizeC cs) (lowC cs vs r)) ∧ (∀ c ∈ SS, c < cs.length ∧ 0 < lowC cs vs r c) ∧ k ≤ SS.length ∧ cols = mayL den cs vs r (SS.getD (k - 1) 0)
def PosT (W : World) (B : Nat) (s1 s2 : Bool) (a b : Option Addr) (c k l m n d : Nat) : Prop :=
  0 < n → s1 = false ∧ s2 = false ∧ l = (Fr.dig (n / Nat.gcd n d)).length ∧ m = (Fr.dig (d / Nat.gcd n d)).length ∧ Fr.NewF B W a c b k (n / Nat.gcd n d) (d / Nat.gcd n d)
section
variable {W W' : World} {B : Nat} {s1 s2 : Bool} {a b : Option Addr} {c k l m n d : Nat}
theorem PosT.later (h : PosT W B s1 s2 a b c k l m n d) (hb : Below W.heap.size W W') : PosT W' B s1 s2 a b c k l m n d := fun h0 => by
 obtain ⟨r1, r2, r3, r4, hN⟩ := h h0
 exact ⟨r1, r2, r3, r4, hN.kept hb⟩
theorem PosT.set (h : PosT W B s1 s2 a b c k l m n d) {p : Addr} (hp : p.block < B) (u : Value) : PosT (W.setCell p u) B s1 s2 a b c k l m n d := fun h0 => by
 obtain ⟨r1, r2, r3, r4, hN⟩ := h h0
 exact ⟨r1, r2, r3, r4, hN.setCell hp⟩
theorem PosT.mono {B' : Nat} (h : PosT W B s1 s2 a b c k l m n d) (hB : B' ≤ B) : PosT W B' s1 s2 a b c k l m n d := fun h0 => by
 obtain ⟨r1, r2, r3, r4, hN⟩ := h h0
 exact ⟨r1, r2, r3, r4, hN.mono hB⟩
end
theorem sgn_red {n d m e : Nat} (hn : 0 < n) (hm : 0 < m) : 0 ≤ Fr.sgn (n / Nat.gcd n d * (e / Nat.gcd m e)) (m / Nat.gcd m e * (d / Nat.gcd n d)) ↔ m * d ≤ n * e := by
 rw [Fr.sgn_nonneg]
 exact red_le hm hn
set_option maxRecDepth 100000 in
set_option maxHeartbeats 8000000 in
theorem top_rest {w0 w : World} {cs : List Cv} {q : List ByteArray} {ev vv lv qv fv : Value} {sb lb xc cap r : Nat} {xa : Option Addr} {pl : List Nat} {den : Nat → Nat → Nat} (hin : SrcIn w0 cs q ev vv lv qv) (h : SrcSt w0 w cs q ev vv lv qv fv sb lb xa xc cap pl r) (hs : ScoOk w0 fv q.length den)
  {k tb kb : Nat} (hk : 0 < k) (hk2 : k ≤ 1099511627776) (ht : BoxN w tb 147 #[.pointer (some ⟨sb, 0, none⟩)]) (hkb : BoxN w kb 3 #[.int .i64 (k : Int)]) (ho : Fr.OneAt w) :
  Calls Tryz.prog 107 #[.pointer (some ⟨tb, 0, none⟩), .pointer (some ⟨kb, 0, none⟩)] w (RestP cs (GoodT den cs (vsOf cs pl) k) r w) := by
 obtain ⟨i0, hi0, hz0, hz1, hz2⟩ := info_parts info_int'
 have hpn := h.len
 have hql := hin.ql
 have hE := hin.ok.many
 have hle := h.le
 have hv := h.ok
 have hnd : q.Nodup := asc_nodupB hin.asc
 have HBEST := hid (fun W c (hW : Below w.heap.size w W) (hc : c < cs.length) => st_best hin (h.later hW) hc)
 have HHIT := hid (fun W c n (hW : Below w.heap.size w W) (hc : c < cs.length) (h1 : n ≤ q.length) (h2 : n ≤ sizeC cs c) => st_hit hin (h.later hW) hs hc h1 h2)
 have HBX := hid (fun W (hW : Below w.heap.size w W) => (h.later hW).box)
 have HLW := hid (fun W c (hW : Below w.heap.size w W) (hc : c < cs.length) => (by
  have h1 := (h.later hW).low.at hc
  rwa [lowsL_at hc] at h1 : W.cell? ⟨lb, c, none⟩ = some (.int .i64 ((lowC cs (vsOf cs pl) r c : Nat) : Int))))
 have HONE := hid (fun W (hW : Below w.heap.size w W) => ho.below hW)
 have HT := hid (fun W (hW : Below w.heap.size w W) => (ht.below hW ht.lt).cell 0 rfl)
 have HKB := hid (fun W (hW : Below w.heap.size w W) => (hkb.below hW hkb.lt).cell 0 rfl)
 have HLO := hid (fun c => (⟨Nat.le_trans (low_le_com hv r c) (com_le_q c), Nat.le_trans (low_le_com hv r c) (com_le_size hnd c)⟩ : lowC cs (vsOf cs pl) r c ≤ q.length ∧ lowC cs (vsOf cs pl) r c ≤ sizeC cs c))
 have HBO := hid (fun c => best_le hv r c (by rw [vs_len]; exact hle))
 have HOK := hid hin.ok
 have HSM := hid (fun c n (h0 : 0 < n) (h1 : n ≤ q.length) (h2 : n ≤ sizeC cs c) => sml_ofB (c := n) (d := den n (sizeC cs c)) (hs.sco.pos n _ h0 h1 h2) (by omega) (hs.small n _ h0 h1 h2 (size_le hin.ok c)))
 have HSCO := hid hs.sco
 obtain ⟨j, hkj1, hkj2⟩ : ∃ j, k ≤ j + 1 ∧ j + 1 ≤ k := ⟨k - 1, by omega, by omega⟩
 have hkw : IntKind.i64.wrap ((k : Int) - 1) = (j : Int) := by rw [IntKind.wrap_i64]; omega
 obtain ⟨vs, hvs⟩ : ∃ vs, vs = vsOf cs pl := ⟨_, rfl⟩
 rw [← hvs] at HBEST HLW HLO HBO ⊢
 clear hin h hs ho hv hnd ht hkb hvs hk
 have hj0 : (0 : Int) ≤ (j : Int) := by omega
 go_enter Tryz.func107, Tryz.ntmps107
 generalize hLA : Code.loop _ = LA
 generalize hLB : Code.loop _ = LB
 have x6 := BoxN.cell (HBX.out w (Below.refl _ _)) 6 rfl
 have c0 := HT.out w (Below.refl _ _)
 go_wp2_with fail
 subst hLA
 go_wp2_with fail
 go_loopg [18, 4, 5, 6, 7, 8] cs.length (fun K i o u5 u6 u7 u8 wr => ∃ (p : Nat) (ds : List Mq) (oa : Option Addr) (oc : Nat), i = .int .i64 (p : Int) ∧ p + K = cs.length ∧ o = .slice oa ds.length oc ∧ Hid (Below w.heap.size w wr) ∧ Hid (HtsOf w.heap.size wr (.slice oa ds.length oc) den cs (lowC cs vs r) (upF (sureB cs vs r) p) ds))
 case atStart => exact ⟨0, [], none, 0, rfl, by omega, rfl, hid (Below.refl _ _), hid (HtsOf.nil0 _ _ _ _ _)⟩
 case round =>
  obtain ⟨p, ds, oa, oc, rfl, hp0, rfl, HBW, HST⟩ := hrel
  clear x6 c0
  by_cases hp : 0 < gk
  ·have hpl : p < cs.length := by omega
   have hpi : (p : Int) < (cs.length : Int) := by omega
   have l0 := HLW.out wr p HBW.out hpl
   have c0 := HT.out wr HBW.out
   have HL := hid (HLO.out p)
   have HHC := hid (HHIT.out wr p (lowC cs vs r p) HBW.out hpl HL.out.1 HL.out.2)
   have HSN := hid (fun h0 : 0 < lowC cs vs r p => HSM.out p _ h0 HL.out.1 HL.out.2)
   have HUY := hid (fun h => @upF_yes (sureB cs vs r) p h)
   have HUN := hid (fun h => @upF_no (sureB cs vs r) p h)
   have HUL := hid (upF_len (sureB cs vs r) p)
   have HUB : Hid (sureB cs vs r p = decide (0 < lowC cs vs r p)) := hid rfl
   have HIT := hid (fun (nu de : Option Addr × Nat) (h0 : 0 < lowC cs vs r p) => (⟨hpl, h0, rfl, rfl, rfl, rfl⟩ : IsHit den cs (lowC cs vs r) p ⟨(cs.getD p Cv.z).1.1, ((cs.getD p Cv.z).1.2 : Int), nu, de, lowC cs vs r p / Nat.gcd (lowC cs vs r p) (den (lowC cs vs r p) (sizeC cs p)), den (lowC cs vs r p) (sizeC cs p) / Nat.gcd (lowC cs vs r p) (den (lowC cs vs r p) (sizeC cs p))⟩))
   generalize (cs.getD p Cv.z).1.1 = ta at *
   generalize (cs.getD p Cv.z).1.2 = can at *
   generalize den (lowC cs vs r p) (sizeC cs p) = dn at *
   obtain ⟨n, hn⟩ : ∃ n, n = lowC cs vs r p := ⟨_, rfl⟩
   rw [← hn] at l0 HL HHC HSN HUB HIT
   clear hn
   go_wp2_with fail
   with_reducible refine HHC.out.mono ?_
   rintro e w5 ⟨s1, s2, a5, b5, c5, k5, l5, m5, rfl, hb5, hpf⟩
   have HBb := hid hb5
   have HSTb := hid (HST.out.later HBb.out)
   have HB1b := hid (HBW.out.trans (HBb.out.mono HBW.out.size))
   by_cases hn0 : 0 < n
   ·obtain ⟨rfl, rfl, rfl, rfl, hN⟩ := hpf hn0
    have ed : decide (0 < n) = true := decide_eq_true hn0
    rw [ed]
    have HY := hid (HUY.out (by rw [HUB.out, ed]))
    clear hpf ed
    have HIT1 := hid (HIT.out (a5, c5) (b5, k5) hn0)
    have HSN1 := hid (HSN.out hn0)
    have HRW := hid (fun k (hk : (Value.slice oa ds.length oc).ownBlock = some k) => (HST.out.row.row.lt k hk).2)
    have hw5 : w.heap.size ≤ w5.heap.size := HB1b.out.size
    have hwr5 : w.heap.size ≤ wr.heap.size := HBW.out.size
    have hdl : ds.length ≤ 65536 := by have h1 := HSTb.out.len; have h2 := HUL.out; omega
    generalize n / Nat.gcd n dn = P at *
    generalize dn / Nat.gcd n dn = Q at *
    have HSTy := hid ((HSTb.out.later ((Below.refl w5.heap.size w5).alloc (Nat.le_refl _) (.cells #[.int .i64 ta, .int .i64 (can : Int), .bool false, .slice a5 (Fr.dig P).length c5, .bool false, .slice b5 (Fr.dig Q).length k5] 53))).later ((Below.refl _ _).alloc (Nat.le_refl _) (.cells #[.int .i64 ta, .int .i64 (can : Int), .bool false, .slice a5 (Fr.dig P).length c5, .bool false, .slice b5 (Fr.dig Q).length k5] 53)))
    have HNy := hid ((hN.kept ((Below.refl w5.heap.size w5).alloc (Nat.le_refl _) (.cells #[.int .i64 ta, .int .i64 (can : Int), .bool false, .slice a5 (Fr.dig P).length c5, .bool false, .slice b5 (Fr.dig Q).length k5] 53))).kept ((Below.refl _ _).alloc (Nat.le_refl _) (.cells #[.int .i64 ta, .int .i64 (can : Int), .bool false, .slice a5 (Fr.dig P).length c5, .bool false, .slice b5 (Fr.dig Q).length k5] 53)))
    have HB1y := hid ((HB1b.out.alloc hw5 (.cells #[.int .i64 ta, .int .i64 (can : Int), .bool false, .slice a5 (Fr.dig P).length c5, .bool false, .slice b5 (Fr.dig Q).length k5] 53)).alloc (by rw [World.size_alloc]; omega) (.cells #[.int .i64 ta, .int .i64 (can : Int), .bool false, .slice a5 (Fr.dig P).length c5, .bool false, .slice b5 (Fr.dig Q).length k5] 53))
    have HX5 := hid (BoxN.new w5 #[.int .i64 ta, .int .i64 (can : Int), .bool false, .slice a5 (Fr.dig P).length c5, .bool false, .slice b5 (Fr.dig Q).length k5] 53)
    have x0 := HX5.out.cell 0 rfl
    have x1 := HX5.out.cell 1 rfl
    have x2 := HX5.out.cell 2 rfl
    have x3 := HX5.out.cell 3 rfl
    have x4 := HX5.out.cell 4 rfl
    have x5 := HX5.out.cell 5 rfl
    have hxy := BoxN.new (w5.alloc (.cells #[.int .i64 ta, .int .i64 (can : Int), .bool false, .slice a5 (Fr.dig P).length c5, .bool false, .slice b5 (Fr.dig Q).length k5] 53)) #[.int .i64 ta, .int .i64 (can : Int), .bool false, .slice a5 (Fr.dig P).length c5, .bool false, .slice b5 (Fr.dig Q).length k5] 53
    rw [World.size_alloc] at hxy
    have HXY := hid hxy
    clear hN hb5 hxy
    go_wp2_with (at_builtin; refine wpList_append_hit rfl (.tmp 31) (.tmp 33) rfl w.heap.size (.slice oa ds.length oc) ds ds.length rfl rfl HSTy.out.row.row [.int .i64 ta, .int .i64 (can : Int), .bool false, .slice a5 (Fr.dig P).length c5, .bool false, .slice b5 (Fr.dig Q).length k5] rfl (by intro u hu; simp at hu; rcases hu with rfl | rfl | rfl | rfl | rfl | rfl <;> rfl) _ 1 53 rfl HXY.out (by omega) HB1y.out.size ?_; intro g7 cap7 w7 hown7 hg7 hat7; have HADD := hid (HSTy.out.add HOK.out HNy.out hwr5 HRW.out HSN1.out rfl hown7 hg7 hat7 HIT1.out); have HG7 := hid (below_grownQ HB1y.out hg7 (fun k hk => (HSTy.out.row.row.lt k hk).1)); clear hown7 hg7 hat7)
    obtain ⟨x, hx⟩ := HADD.out
    have hx' : HtsOf w.heap.size w7 (.slice (some ⟨g7, 0, none⟩) (ds ++ [x]).length cap7) den cs (lowC cs vs r) (upF (sureB cs vs r) (p + 1)) (ds ++ [x]) := by
     rw [HY.out, List.length_append]
     exact hx
    have HXX := hid hx'
    clear hx hx'
    go_roundg (gk - 1)
    case rel => exact ⟨p + 1, ds ++ [x], _, _, by go_num, by omega, by rw [List.length_append]; rfl, HG7, HXX⟩
    case measure => omega
   ·have ed : decide (0 < n) = false := decide_eq_false hn0
    rw [ed]
    have HY := hid (HUN.out (by rw [HUB.out, ed]))
    clear hpf ed hb5
    go_wp2_with fail
    go_roundg (gk - 1)
    case rel => exact ⟨p + 1, ds, oa, oc, by go_num, by omega, rfl, hid (HB1b.out.alloc HB1b.out.size _), hid (by rw [HY.out]; exact HSTb.out.later ((Below.refl _ _).alloc (Nat.le_refl _) _))⟩
    case measure => omega
  ·obtain rfl : gk = 0 := by omega
   obtain rfl : p = cs.length := by omega
   have hrw := HBW.out.size
   have c1 := HKB.out wr HBW.out
   have hdl : ds.length ≤ 65536 := by have h1 := HST.out.len; have h2 := upF_len (sureB cs vs r) cs.length; omega
   by_cases hjl : ds.length < k
   ·have hji : (ds.length : Int) < (k : Int) := by omega
    go_wp2
    go_ret2
    exact ⟨[], _, false, rfl, ColsAt.none _ _ _, fun h => absurd h (by simp), HBW.out⟩
   ·have hji : ¬ (ds.length : Int) < (k : Int) := by omega
    have HSO := hid (hts_sort HST.out HOK.out (upF_nodup _ _) hrw (by have := upF_len (sureB cs vs r) cs.length; omega) (fun x _ => x.2) (fun W hW => HONE.out W (HBW.out.trans hW)))
    have HHL := hid HST.out.len
    go_wp2_with fail
    with_reducible refine HSO.out.mono ?_
    rintro e w3 ⟨rfl, SS, ds', hp', hs', hH', hl', hb3⟩
    have HB3 := hid (HBW.out.trans hb3)
    have HH := hid hH'
    have hdl2 : ds'.length = ds.length := by rw [hl', HHL.out]
    have hjl2 : j < ds'.length := by omega
    have hym : ds'.getD j default ∈ ds' := by
     rw [← List.getElem_eq_getD (h := hjl2)]
     exact List.getElem_mem _
    have hyc : SS.getD j 0 = colQ cs (ds'.getD j default) := by
     rw [← HH.out.cols]
     simp [List.getD, hjl2]
    have HGT := hid (⟨SS, hs', fun c hc => by
     obtain ⟨h1, h2⟩ := upF_mem.1 (hp'.mem_iff.1 hc)
     exact ⟨h1, of_decide_eq_true h2⟩, by rw [hp'.length_eq, ← HHL.out]; omega, by rw [show k - 1 = j by omega, hyc]⟩ : GoodT den cs vs k r (mayL den cs vs r (colQ cs (ds'.getD j default))))
    have hyi := HH.out.of _ hym
    have hyg := HH.out.row.good _ hym
    obtain ⟨ya0, yc0, ye0, -, -, hyr⟩ := HH.out.row.read
    obtain ⟨rfl, -, rfl⟩ := Value.slice.inj ye0
    obtain ⟨yb, yo, rfl, -, hycell⟩ := hyr (by omega)
    have hy2 := hycell j hjl2 2 (by omega)
    have hy3 := hycell j hjl2 3 (by omega)
    have hy4 := hycell j hjl2 4 (by omega)
    have hy5 := hycell j hjl2 5 (by omega)
    rw [encQ_at ds' hjl2] at hy2 hy3 hy4 hy5
    generalize colQ cs (ds'.getD j default) = t at *
    generalize (ds'.getD j default).1 = y at *
    have hyt := hyi.lt
    have hyp := hyi.pos
    have hyP := hyi.p
    have hyQ := hyi.q
    have hynu := hyg.nu
    have hyde := hyg.de
    have hysm := hyg.sml
    obtain ⟨yta, yca, ⟨ya, yc⟩, ⟨yd, ye⟩, P2, Q2⟩ := y
    have hy2 : w3.cell? ⟨yb, yo + j * 6 + 2, none⟩ = some (.bool false) := hy2
    have hy3 : w3.cell? ⟨yb, yo + j * 6 + 3, none⟩ = some (.slice ya (Fr.dig P2).length yc) := hy3
    have hy4 : w3.cell? ⟨yb, yo + j * 6 + 4, none⟩ = some (.bool false) := hy4
    have hy5 : w3.cell? ⟨yb, yo + j * 6 + 5, none⟩ = some (.slice yd (Fr.dig Q2).length ye) := hy5
    have hybl : yb < w3.heap.size := World.block_lt_of_cell? _ _ hy2
    have YC := hid (fun W (hW : Below w3.heap.size w3 W) => (⟨(hW.cell (p := ⟨yb, yo + j * 6 + 2, none⟩) hybl).trans hy2, (hW.cell (p := ⟨yb, yo + j * 6 + 3, none⟩) hybl).trans hy3, (hW.cell (p := ⟨yb, yo + j * 6 + 4, none⟩) hybl).trans hy4, (hW.cell (p := ⟨yb, yo + j * 6 + 5, none⟩) hybl).trans hy5⟩ : W.cell? ⟨yb, yo + j * 6 + 2, none⟩ = some (.bool false) ∧ W.cell? ⟨yb, yo + j * 6 + 3, none⟩ = some (.slice ya (Fr.dig P2).length yc) ∧ W.cell? ⟨yb, yo + j * 6 + 4, none⟩ = some (.bool false) ∧ W.cell? ⟨yb, yo + j * 6 + 5, none⟩ = some (.slice yd (Fr.dig Q2).length ye)))
    have HCMP := hid (fun W v P Q (hW : Below w3.heap.size w3 W) (hr : Fr.RdF W v false P Q) (hsm : Fr.Sml P Q) => Fr.frac_Cmp v (.agg #[.bool false, .slice ya (Fr.dig P2).length yc, .bool false, .slice yd (Fr.dig Q2).length ye]) P Q P2 Q2 W hr (Fr.RdF.kept ⟨_, _, _, _, rfl, hynu, hyde⟩ hW) hsm hysm (HONE.out W (HB3.out.trans (hW.mono HB3.out.size))))
    have HRED : Hid (∀ n d, 0 < n → (0 ≤ Fr.sgn (n / Nat.gcd n d * Q2) (P2 * (d / Nat.gcd n d)) ↔ lowC cs vs r t * d ≤ n * den (lowC cs vs r t) (sizeC cs t))) := hid (fun n d hn => by
     simp only at hyP hyQ
     rw [hyP, hyQ]
     exact sgn_red hn hyp)
    have HMB : Hid (∀ i, mayB den cs vs r t i = (decide (0 < bestC cs vs r i) && decide (lowC cs vs r t * den (bestC cs vs r i) (sizeC cs i) ≤ bestC cs vs r i * den (lowC cs vs r t) (sizeC cs t)))) := hid (fun i => rfl)
    have x6 := BoxN.cell (HBX.out w3 HB3.out) 6 rfl
    have c0 := HT.out w3 HB3.out
    have hz3 := HB3.out.size
    clear hb3 hH' hp' hs' hl' hdl2 hym hyc hyi hyg hyr hycell hy2 hy3 hy4 hy5 hyP hyQ hynu hyde hysm ye0 HH c1
    subst hLB
    go_wp2_with fail
    go_loopg [47, 9, 10, 11, 12] cs.length (fun K i o u10 u11 u12 wr => ∃ (p : Nat) (oa2 : Option Addr) (oc2 : Nat), i = .int .i64 (p : Int) ∧ p + K = cs.length ∧ o = .slice oa2 (upF (mayB den cs vs r t) p).length oc2 ∧ Hid (Below w3.heap.size w3 wr) ∧ Hid (wr.ownsRow w3.heap.size 3 1 (.slice oa2 (upF (mayB den cs vs r t) p).length oc2) (upF (mayB den cs vs r t) p).length (natsV (upF (mayB den cs vs r t) p))))
    case atStart => exact ⟨0, none, 0, rfl, by omega, rfl, hid (Below.refl _ _), hid (World.ownsRow_nil _ _ _ _)⟩
    case round =>
     obtain ⟨p, oa2, oc2, rfl, hp0, rfl, HBR, HOW⟩ := hrel
     clear x6 c0
     by_cases hp : 0 < gk
     ·have hpl : p < cs.length := by omega
      have hpi : (p : Int) < (cs.length : Int) := by omega
      have HBW3 := hid (HB3.out.trans (HBR.out.mono hz3))
      have HG := hid (fun W (hW : Below wr.heap.size wr W) => HT.out W (HBW3.out.trans (hW.mono HBW3.out.size)))
      have hbo := HBO.out p
      have HBE := hid (fun W (hW : Below wr.heap.size wr W) => HBEST.out W p (HBW3.out.trans (hW.mono HBW3.out.size)) hpl)
      have HHB := hid (fun W (hW : Below wr.heap.size wr W) => HHIT.out W p (bestC cs vs r p) (HBW3.out.trans (hW.mono HBW3.out.size)) hpl hbo.1 hbo.2)
      have HSN := hid (fun h0 : 0 < bestC cs vs r p => HSM.out p _ h0 hbo.1 hbo.2)
      have HRP := hid (HRED.out (bestC cs vs r p) (den (bestC cs vs r p) (sizeC cs p)))
      have HMP := hid (HMB.out p)
      have HUY := hid (fun h => @upF_yes (mayB den cs vs r t) p h)
      have HUN := hid (fun h => @upF_no (mayB den cs vs r t) p h)
      have hul := upF_len (mayB den cs vs r t) p
      generalize (cs.getD p Cv.z).1.1 = ta at *
      generalize (cs.getD p Cv.z).1.2 = can at *
      generalize den (bestC cs vs r p) (sizeC cs p) = db at *
      generalize bestC cs vs r p = bs at *
      clear hbo
      go_upto_region 16 with fail
      go_cut [11, 12] from 48 to 76 (fun s11 s12 wx => ∃ (rb : Nat) (s1 s2 : Bool) (a5 b5 : Option Addr) (c5 k5 l5 m5 : Nat), s11 = .pointer (some ⟨rb, 0, none⟩) ∧ s12 = .bool (decide (0 < bs)) ∧ wr.heap.size ≤ rb ∧ Hid (Below wr.heap.size wr wx) ∧ Hid (BoxN wx rb 53 #[.int .i64 ta, .int .i64 (can : Int), .bool s1, .slice a5 l5 c5, .bool s2, .slice b5 m5 k5]) ∧ Hid (PosT wx wr.heap.size s1 s2 a5 b5 c5 k5 l5 m5 bs db))
      case first =>
       have HD := hid (show Below wr.heap.size wr wr.drew from (Below.refl wr.heap.size wr).drew)
       refine wp_region_held_drew (S := fun W => W.cell? ⟨tb, 0, none⟩ = some (.pointer (some ⟨sb, 0, none⟩))) (by kernel_rfl) (HG.out _ HD.out) (fun hHeld => ?_)
       generalize wr.drew = Wd at *
       refine tkbf (i := 0) (v := ?_) (y := (Or.inl ⟨by rfl, ?_⟩)) (z := ?_)
       rotate_left
       ·(intro w' hSw; (try dsimp only at hSw); go_simp) <;> with_reducible rfl
       try simp only [Act.put, List.setIfInBounds_toArray, List.set]
       refine tkbf (i := 1) (v := ?_) (y := (Or.inl ⟨by rfl, ?_⟩)) (z := ?_)
       rotate_left
       ·(intro w' hSw; (try dsimp only at hSw); go_simp) <;> with_reducible rfl
       try simp only [Act.put, List.setIfInBounds_toArray, List.set]
       refine tkbf (i := 2) (v := ?_) (y := (Or.inl ⟨by rfl, ?_⟩)) (z := ?_)
       rotate_left
       ·(intro w' hSw; (try dsimp only at hSw); go_simp) <;> with_reducible rfl
       try simp only [Act.put, List.setIfInBounds_toArray, List.set]
       refine tkbf (i := 3) (v := ?_) (y := (Or.inl ⟨by rfl, ?_⟩)) (z := ?_)
       rotate_left
       ·(intro w' hSw; (try dsimp only at hSw); go_simp) <;> with_reducible rfl
       try simp only [Act.put, List.setIfInBounds_toArray, List.set]
       refine wpAnyH_ready (rs := [4, 9]) (by kernel_rfl) (by simp) ?_
       refine csbf (x := fun K hK => ?_) (y := ?_)
       ·go_simp
        go_at_call 110
        go_must ((with_reducible refine (HBE.out Wd HD.out).mono ?_); rintro e wc0 ⟨rfl, hbc⟩; have HBc0 := hid (HD.out.trans (hbc.mono HD.out.size)); clear hbc)
        (try go_wp2_with fail)
        refine hK.out _ _ (HG.out _ HBc0.out) (fun hHeld => ?_)
        clear hK K
        try simp only [Act.put, List.setIfInBounds_toArray, List.set]
        refine wpAnyH_ready (rs := [5, 9]) (by kernel_rfl) (by simp) ?_
        refine csbf (x := fun K hK => ?_) (y := ?_)
        ·go_simp
         go_at_call 108
         go_must ((with_reducible refine (HHB.out wc0 HBc0.out).mono ?_); rintro e wc1 ⟨s1, s2, a5, b5, c5, k5, l5, m5, rfl, hbc, hpf⟩; have HBc1 := hid (HBc0.out.trans (hbc.mono HBc0.out.size)); have hbz := HBc0.out.size; have HPF := hid (show PosT wc1 wc0.heap.size s1 s2 a5 b5 c5 k5 l5 m5 bs db from hpf); clear hpf; have HKHPF1 := hid (Below.refl wc1.heap.size wc1); clear hbc)
         (try go_wp2_with fail)
         refine hK.out _ _ (HG.out _ HBc1.out) (fun hHeld => ?_)
         clear hK K
         try simp only [Act.put, List.setIfInBounds_toArray, List.set]
         refine tkbf (i := 6) (v := ?_) (y := (Or.inl ⟨by rfl, ?_⟩)) (z := ?_)
         rotate_left
         ·(intro w' hSw; (try dsimp only at hSw); go_simp) <;> with_reducible rfl
         try simp only [Act.put, List.setIfInBounds_toArray, List.set]
         refine tkbf (i := 7) (v := ?_) (y := (Or.inl ⟨by rfl, ?_⟩)) (z := ?_)
         rotate_left
         ·(intro w' hSw; (try dsimp only at hSw); go_simp) <;> with_reducible rfl
         try simp only [Act.put, List.setIfInBounds_toArray, List.set]
         refine tkbf (i := 8) (v := ?_) (y := (Or.inl ⟨by rfl, ?_⟩)) (z := ?_)
         rotate_left
         ·(intro w' hSw; (try dsimp only at hSw); go_simp) <;> with_reducible rfl
         try simp only [Act.put, List.setIfInBounds_toArray, List.set]
         refine wpAnyH_ready (rs := [9]) (by kernel_rfl) (by simp) ?_
         refine csbf (x := fun K hK => ?_) (y := ?_)
         ·go_simp
          have HBa2 := hid (HBc1.out.alloc HBc1.out.size (.cells #[.int .i64 0, .int .i64 0, .bool false, .slice none 0 0, .bool false, .slice none 0 0] 53))
          have HXa2 := hid (BoxN.new wc1 #[.int .i64 0, .int .i64 0, .bool false, .slice none 0 0, .bool false, .slice none 0 0] 53)
          have hloHPF : wc1.heap.size ≤ wc1.heap.size := HKHPF1.out.size
          have HKHPF2 := hid (HKHPF1.out.alloc HKHPF1.out.size (.cells #[.int .i64 0, .int .i64 0, .bool false, .slice none 0 0, .bool false, .slice none 0 0] 53))
          refine hK.out _ _ (HG.out _ HBa2.out) (fun hHeld => ?_)
          clear hK K
          try simp only [Act.put, List.setIfInBounds_toArray, List.set]
          obtain ⟨Wa2, hWa2⟩ : ∃ V, V = World.alloc wc1 (.cells #[.int .i64 0, .int .i64 0, .bool false, .slice none 0 0, .bool false, .slice none 0 0] 53) := ⟨_, rfl⟩
          rw [← hWa2] at HBa2 HXa2 HKHPF2 hHeld ⊢
          clear hWa2
          refine wpAnyH_ready (rs := [10]) (by kernel_rfl) (by simp) ?_
          refine csbf (x := fun K hK => ?_) (y := AllReadyH.nil)
          have e0 := HXa2.out.cell 0 rfl
          have f0 := HXa2.out.frozen 0
          have e1 := HXa2.out.cell 1 rfl
          have f1 := HXa2.out.frozen 1
          have e2 := HXa2.out.cell 2 rfl
          have f2 := HXa2.out.frozen 2
          have e3 := HXa2.out.cell 3 rfl
          have f3 := HXa2.out.frozen 3
          have e4 := HXa2.out.cell 4 rfl
          have f4 := HXa2.out.frozen 4
          have e5 := HXa2.out.cell 5 rfl
          have f5 := HXa2.out.frozen 5
          have hlo : wr.heap.size ≤ wc1.heap.size := HBc1.out.size
          go_simp
          have g0 : BoxN _ wc1.heap.size 53 #[.int .i64 ta, .int .i64 0, .bool false, .slice none 0 0, .bool false, .slice none 0 0] := HXa2.out.set 0 (.int .i64 ta)
          have h0 := HBa2.out.setCell (p := ⟨wc1.heap.size, 0, none⟩) hlo (.int .i64 ta)
          have g1 : BoxN _ wc1.heap.size 53 #[.int .i64 ta, .int .i64 (can : Int), .bool false, .slice none 0 0, .bool false, .slice none 0 0] := g0.set 1 (.int .i64 (can : Int))
          have h1 := h0.setCell (p := ⟨wc1.heap.size, 1, none⟩) hlo (.int .i64 (can : Int))
          have g2 : BoxN _ wc1.heap.size 53 #[.int .i64 ta, .int .i64 (can : Int), .bool s1, .slice none 0 0, .bool false, .slice none 0 0] := g1.set 2 (.bool s1)
          have h2 := h1.setCell (p := ⟨wc1.heap.size, 2, none⟩) hlo (.bool s1)
          have g3 : BoxN _ wc1.heap.size 53 #[.int .i64 ta, .int .i64 (can : Int), .bool s1, .slice a5 l5 c5, .bool false, .slice none 0 0] := g2.set 3 (.slice a5 l5 c5)
          have h3 := h2.setCell (p := ⟨wc1.heap.size, 3, none⟩) hlo (.slice a5 l5 c5)
          have g4 : BoxN _ wc1.heap.size 53 #[.int .i64 ta, .int .i64 (can : Int), .bool s1, .slice a5 l5 c5, .bool s2, .slice none 0 0] := g3.set 4 (.bool s2)
          have h4 := h3.setCell (p := ⟨wc1.heap.size, 4, none⟩) hlo (.bool s2)
          have g5 : BoxN _ wc1.heap.size 53 #[.int .i64 ta, .int .i64 (can : Int), .bool s1, .slice a5 l5 c5, .bool s2, .slice b5 m5 k5] := g4.set 5 (.slice b5 m5 k5)
          have h5 := h4.setCell (p := ⟨wc1.heap.size, 5, none⟩) hlo (.slice b5 m5 k5)
          have HGX := hid g5
          have HHX := hid h5
          have HZHPF := hid (PosT.later (HPF.out) ((((((HKHPF2.out.setCell (p := ⟨wc1.heap.size, 0, none⟩) hloHPF (.int .i64 ta)).setCell (p := ⟨wc1.heap.size, 1, none⟩) hloHPF (.int .i64 (can : Int))).setCell (p := ⟨wc1.heap.size, 2, none⟩) hloHPF (.bool s1)).setCell (p := ⟨wc1.heap.size, 3, none⟩) hloHPF (.slice a5 l5 c5)).setCell (p := ⟨wc1.heap.size, 4, none⟩) hloHPF (.bool s2)).setCell (p := ⟨wc1.heap.size, 5, none⟩) hloHPF (.slice b5 m5 k5)))
          clear g0 h0 e0 f0 g1 h1 e1 f1 g2 h2 e2 f2 g3 h3 e3 f3 g4 h4 e4 f4 g5 h5 e5 f5
          refine hK.out _ _ (HG.out _ HHX.out) (fun hHeld => ?_)
          clear hK K
          try simp only [Act.put, List.setIfInBounds_toArray, List.set]
          refine tkbf (i := 11) (v := ?_) (y := (Or.inl ⟨by rfl, ?_⟩)) (z := ?_)
          rotate_left
          ·(intro w' hSw; (try dsimp only at hSw); go_simp) <;> with_reducible rfl
          try simp only [Act.put, List.setIfInBounds_toArray, List.set]
          refine wpAnyH_done (by kernel_rfl) ?_ _
          go_wp2_with fail
          go_meet
          exact ⟨_, s1, s2, a5, b5, c5, k5, l5, m5, rfl, rfl, hlo, HHX, HGX, hid (HZHPF.out.mono hbz)⟩
         exact AllReadyH.nil
        refine csbf (x := fun K hK => ?_) (y := ?_)
        ·go_simp
         have HBa1 := hid (HBc0.out.alloc HBc0.out.size (.cells #[.int .i64 0, .int .i64 0, .bool false, .slice none 0 0, .bool false, .slice none 0 0] 53))
         have HXa1 := hid (BoxN.new wc0 #[.int .i64 0, .int .i64 0, .bool false, .slice none 0 0, .bool false, .slice none 0 0] 53)
         refine hK.out _ _ (HG.out _ HBa1.out) (fun hHeld => ?_)
         clear hK K
         try simp only [Act.put, List.setIfInBounds_toArray, List.set]
         obtain ⟨Wa1, hWa1⟩ : ∃ V, V = World.alloc wc0 (.cells #[.int .i64 0, .int .i64 0, .bool false, .slice none 0 0, .bool false, .slice none 0 0] 53) := ⟨_, rfl⟩
         rw [← hWa1] at HBa1 HXa1  hHeld ⊢
         clear hWa1
         refine wpAnyH_ready (rs := [5]) (by kernel_rfl) (by simp) ?_
         refine csbf (x := fun K hK => ?_) (y := ?_)
         ·go_simp
          go_at_call 108
          go_must ((with_reducible refine (HHB.out Wa1 HBa1.out).mono ?_); rintro e wc2 ⟨s1, s2, a5, b5, c5, k5, l5, m5, rfl, hbc, hpf⟩; have HBc2 := hid (HBa1.out.trans (hbc.mono HBa1.out.size)); have HXc2 := hid (HXa1.out.below hbc HXa1.out.lt); have hbz := HBa1.out.size; have HPF := hid (show PosT wc2 Wa1.heap.size s1 s2 a5 b5 c5 k5 l5 m5 bs db from hpf); clear hpf; have HKHPF2 := hid (Below.refl wc2.heap.size wc2); have hrbHPF : wc0.heap.size < Wa1.heap.size := HXa1.out.lt; clear hbc)
          (try go_wp2_with fail)
          refine hK.out _ _ (HG.out _ HBc2.out) (fun hHeld => ?_)
          clear hK K
          try simp only [Act.put, List.setIfInBounds_toArray, List.set]
          refine tkbf (i := 6) (v := ?_) (y := (Or.inl ⟨by rfl, ?_⟩)) (z := ?_)
          rotate_left
          ·(intro w' hSw; (try dsimp only at hSw); go_simp) <;> with_reducible rfl
          try simp only [Act.put, List.setIfInBounds_toArray, List.set]
          refine tkbf (i := 7) (v := ?_) (y := (Or.inl ⟨by rfl, ?_⟩)) (z := ?_)
          rotate_left
          ·(intro w' hSw; (try dsimp only at hSw); go_simp) <;> with_reducible rfl
          try simp only [Act.put, List.setIfInBounds_toArray, List.set]
          refine tkbf (i := 8) (v := ?_) (y := (Or.inl ⟨by rfl, ?_⟩)) (z := ?_)
          rotate_left
          ·(intro w' hSw; (try dsimp only at hSw); go_simp) <;> with_reducible rfl
          try simp only [Act.put, List.setIfInBounds_toArray, List.set]
          refine wpAnyH_ready (rs := [10]) (by kernel_rfl) (by simp) ?_
          refine csbf (x := fun K hK => ?_) (y := AllReadyH.nil)
          have e0 := HXc2.out.cell 0 rfl
          have f0 := HXc2.out.frozen 0
          have e1 := HXc2.out.cell 1 rfl
          have f1 := HXc2.out.frozen 1
          have e2 := HXc2.out.cell 2 rfl
          have f2 := HXc2.out.frozen 2
          have e3 := HXc2.out.cell 3 rfl
          have f3 := HXc2.out.frozen 3
          have e4 := HXc2.out.cell 4 rfl
          have f4 := HXc2.out.frozen 4
          have e5 := HXc2.out.cell 5 rfl
          have f5 := HXc2.out.frozen 5
          have hlo : wr.heap.size ≤ wc0.heap.size := HBc0.out.size
          go_simp
          have g0 : BoxN _ wc0.heap.size 53 #[.int .i64 ta, .int .i64 0, .bool false, .slice none 0 0, .bool false, .slice none 0 0] := HXc2.out.set 0 (.int .i64 ta)
          have h0 := HBc2.out.setCell (p := ⟨wc0.heap.size, 0, none⟩) hlo (.int .i64 ta)
          have g1 : BoxN _ wc0.heap.size 53 #[.int .i64 ta, .int .i64 (can : Int), .bool false, .slice none 0 0, .bool false, .slice none 0 0] := g0.set 1 (.int .i64 (can : Int))
          have h1 := h0.setCell (p := ⟨wc0.heap.size, 1, none⟩) hlo (.int .i64 (can : Int))
          have g2 : BoxN _ wc0.heap.size 53 #[.int .i64 ta, .int .i64 (can : Int), .bool s1, .slice none 0 0, .bool false, .slice none 0 0] := g1.set 2 (.bool s1)
          have h2 := h1.setCell (p := ⟨wc0.heap.size, 2, none⟩) hlo (.bool s1)
          have g3 : BoxN _ wc0.heap.size 53 #[.int .i64 ta, .int .i64 (can : Int), .bool s1, .slice a5 l5 c5, .bool false, .slice none 0 0] := g2.set 3 (.slice a5 l5 c5)
          have h3 := h2.setCell (p := ⟨wc0.heap.size, 3, none⟩) hlo (.slice a5 l5 c5)
          have g4 : BoxN _ wc0.heap.size 53 #[.int .i64 ta, .int .i64 (can : Int), .bool s1, .slice a5 l5 c5, .bool s2, .slice none 0 0] := g3.set 4 (.bool s2)
          have h4 := h3.setCell (p := ⟨wc0.heap.size, 4, none⟩) hlo (.bool s2)
          have g5 : BoxN _ wc0.heap.size 53 #[.int .i64 ta, .int .i64 (can : Int), .bool s1, .slice a5 l5 c5, .bool s2, .slice b5 m5 k5] := g4.set 5 (.slice b5 m5 k5)
          have h5 := h4.setCell (p := ⟨wc0.heap.size, 5, none⟩) hlo (.slice b5 m5 k5)
          have HGX := hid g5
          have HHX := hid h5
          have HZHPF := hid ((PosT.set ((PosT.set ((PosT.set ((PosT.set ((PosT.set ((PosT.set ((PosT.later (HPF.out) HKHPF2.out)) (p := ⟨wc0.heap.size, 0, none⟩) hrbHPF (.int .i64 ta))) (p := ⟨wc0.heap.size, 1, none⟩) hrbHPF (.int .i64 (can : Int)))) (p := ⟨wc0.heap.size, 2, none⟩) hrbHPF (.bool s1))) (p := ⟨wc0.heap.size, 3, none⟩) hrbHPF (.slice a5 l5 c5))) (p := ⟨wc0.heap.size, 4, none⟩) hrbHPF (.bool s2))) (p := ⟨wc0.heap.size, 5, none⟩) hrbHPF (.slice b5 m5 k5)))
          clear g0 h0 e0 f0 g1 h1 e1 f1 g2 h2 e2 f2 g3 h3 e3 f3 g4 h4 e4 f4 g5 h5 e5 f5
          refine hK.out _ _ (HG.out _ HHX.out) (fun hHeld => ?_)
          clear hK K
          try simp only [Act.put, List.setIfInBounds_toArray, List.set]
          refine tkbf (i := 11) (v := ?_) (y := (Or.inl ⟨by rfl, ?_⟩)) (z := ?_)
          rotate_left
          ·(intro w' hSw; (try dsimp only at hSw); go_simp) <;> with_reducible rfl
          try simp only [Act.put, List.setIfInBounds_toArray, List.set]
          refine wpAnyH_done (by kernel_rfl) ?_ _
          go_wp2_with fail
          go_meet
          exact ⟨_, s1, s2, a5, b5, c5, k5, l5, m5, rfl, rfl, hlo, HHX, HGX, hid (HZHPF.out.mono hbz)⟩
         exact AllReadyH.nil
        exact AllReadyH.nil
       refine csbf (x := fun K hK => ?_) (y := ?_)
       ·go_simp
        have HBa0 := hid (HD.out.alloc HD.out.size (.cells #[.int .i64 0, .int .i64 0, .bool false, .slice none 0 0, .bool false, .slice none 0 0] 53))
        have HXa0 := hid (BoxN.new Wd #[.int .i64 0, .int .i64 0, .bool false, .slice none 0 0, .bool false, .slice none 0 0] 53)
        refine hK.out _ _ (HG.out _ HBa0.out) (fun hHeld => ?_)
        clear hK K
        try simp only [Act.put, List.setIfInBounds_toArray, List.set]
        obtain ⟨Wa0, hWa0⟩ : ∃ V, V = World.alloc Wd (.cells #[.int .i64 0, .int .i64 0, .bool false, .slice none 0 0, .bool false, .slice none 0 0] 53) := ⟨_, rfl⟩
        rw [← hWa0] at HBa0 HXa0  hHeld ⊢
        clear hWa0
        refine wpAnyH_ready (rs := [4]) (by kernel_rfl) (by simp) ?_
        refine csbf (x := fun K hK => ?_) (y := ?_)
        ·go_simp
         go_at_call 110
         go_must ((with_reducible refine (HBE.out Wa0 HBa0.out).mono ?_); rintro e wc1 ⟨rfl, hbc⟩; have HBc1 := hid (HBa0.out.trans (hbc.mono HBa0.out.size)); have HXc1 := hid (HXa0.out.below hbc HXa0.out.lt); clear hbc)
         (try go_wp2_with fail)
         refine hK.out _ _ (HG.out _ HBc1.out) (fun hHeld => ?_)
         clear hK K
         try simp only [Act.put, List.setIfInBounds_toArray, List.set]
         refine wpAnyH_ready (rs := [5]) (by kernel_rfl) (by simp) ?_
         refine csbf (x := fun K hK => ?_) (y := ?_)
         ·go_simp
          go_at_call 108
          go_must ((with_reducible refine (HHB.out wc1 HBc1.out).mono ?_); rintro e wc2 ⟨s1, s2, a5, b5, c5, k5, l5, m5, rfl, hbc, hpf⟩; have HBc2 := hid (HBc1.out.trans (hbc.mono HBc1.out.size)); have HXc2 := hid (HXc1.out.below hbc HXc1.out.lt); have hbz := HBc1.out.size; have HPF := hid (show PosT wc2 wc1.heap.size s1 s2 a5 b5 c5 k5 l5 m5 bs db from hpf); clear hpf; have HKHPF2 := hid (Below.refl wc2.heap.size wc2); have hrbHPF : Wd.heap.size < wc1.heap.size := HXc1.out.lt; clear hbc)
          (try go_wp2_with fail)
          refine hK.out _ _ (HG.out _ HBc2.out) (fun hHeld => ?_)
          clear hK K
          try simp only [Act.put, List.setIfInBounds_toArray, List.set]
          refine tkbf (i := 6) (v := ?_) (y := (Or.inl ⟨by rfl, ?_⟩)) (z := ?_)
          rotate_left
          ·(intro w' hSw; (try dsimp only at hSw); go_simp) <;> with_reducible rfl
          try simp only [Act.put, List.setIfInBounds_toArray, List.set]
          refine tkbf (i := 7) (v := ?_) (y := (Or.inl ⟨by rfl, ?_⟩)) (z := ?_)
          rotate_left
          ·(intro w' hSw; (try dsimp only at hSw); go_simp) <;> with_reducible rfl
          try simp only [Act.put, List.setIfInBounds_toArray, List.set]
          refine tkbf (i := 8) (v := ?_) (y := (Or.inl ⟨by rfl, ?_⟩)) (z := ?_)
          rotate_left
          ·(intro w' hSw; (try dsimp only at hSw); go_simp) <;> with_reducible rfl
          try simp only [Act.put, List.setIfInBounds_toArray, List.set]
          refine wpAnyH_ready (rs := [10]) (by kernel_rfl) (by simp) ?_
          refine csbf (x := fun K hK => ?_) (y := AllReadyH.nil)
          have e0 := HXc2.out.cell 0 rfl
          have f0 := HXc2.out.frozen 0
          have e1 := HXc2.out.cell 1 rfl
          have f1 := HXc2.out.frozen 1
          have e2 := HXc2.out.cell 2 rfl
          have f2 := HXc2.out.frozen 2
          have e3 := HXc2.out.cell 3 rfl
          have f3 := HXc2.out.frozen 3
          have e4 := HXc2.out.cell 4 rfl
          have f4 := HXc2.out.frozen 4
          have e5 := HXc2.out.cell 5 rfl
          have f5 := HXc2.out.frozen 5
          have hlo : wr.heap.size ≤ Wd.heap.size := HD.out.size
          go_simp
          have g0 : BoxN _ Wd.heap.size 53 #[.int .i64 ta, .int .i64 0, .bool false, .slice none 0 0, .bool false, .slice none 0 0] := HXc2.out.set 0 (.int .i64 ta)
          have h0 := HBc2.out.setCell (p := ⟨Wd.heap.size, 0, none⟩) hlo (.int .i64 ta)
          have g1 : BoxN _ Wd.heap.size 53 #[.int .i64 ta, .int .i64 (can : Int), .bool false, .slice none 0 0, .bool false, .slice none 0 0] := g0.set 1 (.int .i64 (can : Int))
          have h1 := h0.setCell (p := ⟨Wd.heap.size, 1, none⟩) hlo (.int .i64 (can : Int))
          have g2 : BoxN _ Wd.heap.size 53 #[.int .i64 ta, .int .i64 (can : Int), .bool s1, .slice none 0 0, .bool false, .slice none 0 0] := g1.set 2 (.bool s1)
          have h2 := h1.setCell (p := ⟨Wd.heap.size, 2, none⟩) hlo (.bool s1)
          have g3 : BoxN _ Wd.heap.size 53 #[.int .i64 ta, .int .i64 (can : Int), .bool s1, .slice a5 l5 c5, .bool false, .slice none 0 0] := g2.set 3 (.slice a5 l5 c5)
          have h3 := h2.setCell (p := ⟨Wd.heap.size, 3, none⟩) hlo (.slice a5 l5 c5)
          have g4 : BoxN _ Wd.heap.size 53 #[.int .i64 ta, .int .i64 (can : Int), .bool s1, .slice a5 l5 c5, .bool s2, .slice none 0 0] := g3.set 4 (.bool s2)
          have h4 := h3.setCell (p := ⟨Wd.heap.size, 4, none⟩) hlo (.bool s2)
          have g5 : BoxN _ Wd.heap.size 53 #[.int .i64 ta, .int .i64 (can : Int), .bool s1, .slice a5 l5 c5, .bool s2, .slice b5 m5 k5] := g4.set 5 (.slice b5 m5 k5)
          have h5 := h4.setCell (p := ⟨Wd.heap.size, 5, none⟩) hlo (.slice b5 m5 k5)
          have HGX := hid g5
          have HHX := hid h5
          have HZHPF := hid ((PosT.set ((PosT.set ((PosT.set ((PosT.set ((PosT.set ((PosT.set ((PosT.later (HPF.out) HKHPF2.out)) (p := ⟨Wd.heap.size, 0, none⟩) hrbHPF (.int .i64 ta))) (p := ⟨Wd.heap.size, 1, none⟩) hrbHPF (.int .i64 (can : Int)))) (p := ⟨Wd.heap.size, 2, none⟩) hrbHPF (.bool s1))) (p := ⟨Wd.heap.size, 3, none⟩) hrbHPF (.slice a5 l5 c5))) (p := ⟨Wd.heap.size, 4, none⟩) hrbHPF (.bool s2))) (p := ⟨Wd.heap.size, 5, none⟩) hrbHPF (.slice b5 m5 k5)))
          clear g0 h0 e0 f0 g1 h1 e1 f1 g2 h2 e2 f2 g3 h3 e3 f3 g4 h4 e4 f4 g5 h5 e5 f5
          refine hK.out _ _ (HG.out _ HHX.out) (fun hHeld => ?_)
          clear hK K
          try simp only [Act.put, List.setIfInBounds_toArray, List.set]
          refine tkbf (i := 11) (v := ?_) (y := (Or.inl ⟨by rfl, ?_⟩)) (z := ?_)
          rotate_left
          ·(intro w' hSw; (try dsimp only at hSw); go_simp) <;> with_reducible rfl
          try simp only [Act.put, List.setIfInBounds_toArray, List.set]
          refine wpAnyH_done (by kernel_rfl) ?_ _
          go_wp2_with fail
          go_meet
          exact ⟨_, s1, s2, a5, b5, c5, k5, l5, m5, rfl, rfl, hlo, HHX, HGX, hid (HZHPF.out.mono hbz)⟩
         exact AllReadyH.nil
        exact AllReadyH.nil
       exact AllReadyH.nil
      case rest =>
       obtain ⟨rb, s1, s2, a5, b5, c5, k5, l5, m5, rfl, rfl, hrb, HBc, HXH, HPS⟩ := hcut
       obtain ⟨w4, rfl⟩ : ∃ W, W = wc := ⟨_, rfl⟩
       have HBR4 := hid (HBR.out.trans (HBc.out.mono HBR.out.size))
       have HBW4 := hid (HB3.out.trans (HBR4.out.mono hz3))
       have HOW4 := hid (own_later HOW.out HBc.out)
       have hz4 := HBR4.out.size
       by_cases hb0 : 0 < bs
       ·obtain ⟨rfl, rfl, rfl, rfl, hN⟩ := HPS.out hb0
        have ed : decide (0 < bs) = true := decide_eq_true hb0
        rw [ed] at HMP ⊢
        have HRQ := hid (HRP.out hb0)
        have HSN1 := hid (HSN.out hb0)
        clear HPS ed
        generalize bs / Nat.gcd bs db = P at *
        generalize db / Nat.gcd bs db = Q at *
        have HRF := hid (hN.rd false)
        have HG17 := hid (fun W (hW : Below w4.heap.size w4 W) => (by
         have h1 := HXH.out.below hW HXH.out.lt
         have h2 := YC.out W (HBR4.out.trans (hW.mono hz4))
         exact ⟨h1.cell 2 rfl, h1.cell 3 rfl, h1.cell 4 rfl, h1.cell 5 rfl, HKB.out W (HBW4.out.trans (hW.mono HBW4.out.size)), h2.1, h2.2.1, h2.2.2.1, h2.2.2.2⟩ : W.cell? ⟨rb, 2, none⟩ = some (.bool false) ∧ W.cell? ⟨rb, 3, none⟩ = some (.slice a5 (Fr.dig P).length c5) ∧ W.cell? ⟨rb, 4, none⟩ = some (.bool false) ∧ W.cell? ⟨rb, 5, none⟩ = some (.slice b5 (Fr.dig Q).length k5) ∧ W.cell? ⟨kb, 0, none⟩ = some (.int .i64 (k : Int)) ∧ W.cell? ⟨yb, yo + j * 6 + 2, none⟩ = some (.bool false) ∧ W.cell? ⟨yb, yo + j * 6 + 3, none⟩ = some (.slice ya (Fr.dig P2).length yc) ∧ W.cell? ⟨yb, yo + j * 6 + 4, none⟩ = some (.bool false) ∧ W.cell? ⟨yb, yo + j * 6 + 5, none⟩ = some (.slice yd (Fr.dig Q2).length ye)))
        have HCM := hid (fun W (hW : Below w4.heap.size w4 W) => HCMP.out W _ P Q (HBR4.out.trans (hW.mono hz4)) (HRF.out.kept hW) HSN1.out)
        have HD4 := hid ((Below.refl w4.heap.size w4).drew)
        have hji2 : (j : Int) < (ds.length : Int) := by omega
        clear hN HG HBE HHB HSN
        go_upto_region 17 with fail
        generalize Fr.sgn (P * Q2) (P2 * Q) = z at *
        go_cut [71] from 48 to 76 (fun s71 wx => s71 = .bool (decide (0 ≤ z)) ∧ Hid (Below w4.heap.size w4 wx))
        case first =>
         go_region_held3 (fun W => W.cell? ⟨rb, 2, none⟩ = some (.bool false) ∧ W.cell? ⟨rb, 3, none⟩ = some (.slice a5 (Fr.dig P).length c5) ∧ W.cell? ⟨rb, 4, none⟩ = some (.bool false) ∧ W.cell? ⟨rb, 5, none⟩ = some (.slice b5 (Fr.dig Q).length k5) ∧ W.cell? ⟨kb, 0, none⟩ = some (.int .i64 (k : Int)) ∧ W.cell? ⟨yb, yo + j * 6 + 2, none⟩ = some (.bool false) ∧ W.cell? ⟨yb, yo + j * 6 + 3, none⟩ = some (.slice ya (Fr.dig P2).length yc) ∧ W.cell? ⟨yb, yo + j * 6 + 4, none⟩ = some (.bool false) ∧ W.cell? ⟨yb, yo + j * 6 + 5, none⟩ = some (.slice yd (Fr.dig Q2).length ye))
          (first | exact HG17.out _ HD4.out | exact HG17.out _ HC5.out | go_keep)
          ((go_at_call 84; go_must ((with_reducible refine (HCM.out _ HD4.out).mono ?_); rintro e w5 ⟨rfl, hb5⟩; have HC5 := hid (HD4.out.trans (hb5.mono HD4.out.size)); clear hb5)))
         all_goals
          go_wp2_with fail
          go_meet
          exact ⟨rfl, HC5⟩
        case rest =>
         obtain ⟨rfl, HBd⟩ := hcut
         obtain ⟨w6, rfl⟩ : ∃ W, W = wc := ⟨_, rfl⟩
         have HBR6 := hid (HBR4.out.trans (HBd.out.mono hz4))
         have HOW6 := hid (own_later HOW4.out HBd.out)
         have hz6 := HBR6.out.size
         by_cases hz : 0 ≤ z
         ·have ed : decide (0 ≤ z) = true := decide_eq_true hz
          have HY := hid (HUY.out (by rw [HMP.out, decide_eq_true (HRQ.out.1 hz)]; rfl))
          rw [ed]
          clear ed
          obtain ⟨m, hm⟩ : ∃ m, m = (upF (mayB den cs vs r t) p).length := ⟨_, rfl⟩
          rw [← hm] at HOW6 hul ⊢
          have HM := hid hm
          clear hm
          go_wp2_with (at_builtin; refine wpList_append_form _ rfl (.tmp 72) (.tmp 74) 34 34 rfl w3.heap.size 3 3 i0 (.int .i64 0) 1 8 Tryz.underlying34 Tryz.underlying34 hi0 hz0 hz1 hz2 rfl (by decide) (.slice oa2 m oc2) m (natsV (upF (mayB den cs vs r t) p)) rfl (HOW6.out.alloc _) (some ⟨_, 0, none⟩) 1 1 [.int .i64 (p : Int)] rfl rfl (fun _ => ⟨_, rfl, cell_one_new _ _ _⟩) (by intro u hu; simp at hu; subst hu; rfl) (by omega) (by unfold maxLen; omega) (by omega) (by simp; omega) ?_; intro g7 cap7 w7 hown7 hg7 hat7 hlt7; have HOWN7 := hid hown7; have HG7 := hid (below_grownQ (HBR6.out.alloc hz6 _) hg7 (fun k hk => (HOW6.out.lt k hk).1)); clear hown7 hg7 hat7 hlt7)
          go_wp2
          go_roundg (gk - 1)
          case rel => exact ⟨p + 1, _, cap7, by go_num, by omega, by rw [HY.out, List.length_append, ← HM.out]; rfl, HG7, hid (by rw [HY.out, List.length_append, ← HM.out]; simpa [natsV] using HOWN7.out)⟩
          case measure => omega
         ·have ed : decide (0 ≤ z) = false := decide_eq_false hz
          have HY := hid (HUN.out (by rw [HMP.out, decide_eq_false (fun e => hz (HRQ.out.2 e))]; rfl))
          rw [ed]
          clear ed
          go_wp2_with fail
          go_roundg (gk - 1)
          case rel => exact ⟨p + 1, oa2, oc2, by go_num, by omega, by rw [HY.out], HBR6, hid (by rw [HY.out]; exact HOW6.out)⟩
          case measure => omega
       ·have ed : decide (0 < bs) = false := decide_eq_false hb0
        rw [ed] at HMP ⊢
        have HY := hid (HUN.out (by rw [HMP.out]; rfl))
        clear HPS ed
        go_upto_region 17 with fail
        refine wp_region_held_drew (S := fun W => W.cell? ⟨kb, 0, none⟩ = some (.int .i64 (k : Int))) (by kernel_rfl) (HKB.out _ (HBW4.out.drew)) (fun hHeld => ?_)
        refine tkbf (i := 0) (v := ?_) (y := (Or.inl ⟨by rfl, ?_⟩)) (z := ?_)
        rotate_left
        ·(intro w' hSw; (try dsimp only at hSw); go_simp) <;> with_reducible rfl
        try simp only [Act.put, List.setIfInBounds_toArray, List.set]
        refine tkbf (i := 1) (v := ?_) (y := (Or.inl ⟨by rfl, ?_⟩)) (z := ?_)
        rotate_left
        ·(intro w' hSw; (try dsimp only at hSw); go_simp) <;> with_reducible rfl
        try simp only [Act.put, List.setIfInBounds_toArray, List.set]
        refine tkbf (i := 2) (v := undef) (y := (Or.inr ⟨by rfl, rfl⟩)) (z := ?_)
        try simp only [Act.put, List.setIfInBounds_toArray, List.set]
        refine tkbf (i := 3) (v := undef) (y := (Or.inr ⟨by rfl, rfl⟩)) (z := ?_)
        try simp only [Act.put, List.setIfInBounds_toArray, List.set]
        refine tkbf (i := 4) (v := undef) (y := (Or.inr ⟨by rfl, rfl⟩)) (z := ?_)
        try simp only [Act.put, List.setIfInBounds_toArray, List.set]
        refine tkbf (i := 5) (v := undef) (y := (Or.inr ⟨by rfl, rfl⟩)) (z := ?_)
        try simp only [Act.put, List.setIfInBounds_toArray, List.set]
        refine tkbf (i := 6) (v := undef) (y := (Or.inr ⟨by rfl, rfl⟩)) (z := ?_)
        try simp only [Act.put, List.setIfInBounds_toArray, List.set]
        refine tkbf (i := 7) (v := undef) (y := (Or.inr ⟨by rfl, rfl⟩)) (z := ?_)
        try simp only [Act.put, List.setIfInBounds_toArray, List.set]
        refine tkbf (i := 8) (v := undef) (y := (Or.inr ⟨by rfl, rfl⟩)) (z := ?_)
        try simp only [Act.put, List.setIfInBounds_toArray, List.set]
        refine tkbf (i := 9) (v := undef) (y := (Or.inr ⟨by rfl, rfl⟩)) (z := ?_)
        try simp only [Act.put, List.setIfInBounds_toArray, List.set]
        refine tkbf (i := 10) (v := undef) (y := (Or.inr ⟨by rfl, rfl⟩)) (z := ?_)
        try simp only [Act.put, List.setIfInBounds_toArray, List.set]
        refine tkbf (i := 11) (v := undef) (y := (Or.inr ⟨by rfl, rfl⟩)) (z := ?_)
        try simp only [Act.put, List.setIfInBounds_toArray, List.set]
        refine tkbf (i := 12) (v := ?_) (y := (Or.inl ⟨by rfl, ?_⟩)) (z := ?_)
        rotate_left
        ·(intro w' hSw; (try dsimp only at hSw); go_simp) <;> with_reducible rfl
        try simp only [Act.put, List.setIfInBounds_toArray, List.set]
        refine wpAnyH_done (by kernel_rfl) ?_ _
        go_wp2_with fail
        go_roundg (gk - 1)
        case rel => exact ⟨p + 1, oa2, oc2, by go_num, by omega, by rw [HY.out], hid (HBR4.out.drew), hid (by rw [HY.out]; exact HOW4.out)⟩
        case measure => omega
     ·obtain rfl : gk = 0 := by omega
      obtain rfl : p = cs.length := by omega
      have HCOLS := hid (own_in HOW.out rfl)
      have HBE := hid (HB3.out.trans (HBR.out.mono hz3))
      go_wp2
      go_ret2
      exact ⟨mayL den cs vs r t, _, true, rfl, ⟨HCOLS.out.more fun k hk => ⟨Nat.le_trans hz3 hk.1, hk.2⟩, upF_up _ _, fun c hc => (upF_mem.1 hc).1, Nat.le_trans (upF_len _ _) (by omega)⟩, fun _ => HGT.out, HBE.out⟩
end Go.Proofs.YtikiimlmoalbcaaGreatDoor
