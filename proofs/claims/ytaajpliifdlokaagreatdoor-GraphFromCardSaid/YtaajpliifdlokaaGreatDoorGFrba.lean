/- Plain: the relations of a list of tables (chapter 30). No program in sight. Contract of graph.Build at valid tables that are few. -/
import Derived.Test.YtaajpliifdlokaaGreatDoorGFray
import Derived.Test.YtaajpliifdlokaaGreatDoorGFraz
import Derived.Deep.Cut
import Derived.Deep.RegionHeld3
import Derived.Test.YtaajpliifdlokaaGreatDoorGFrav
import Derived.Test.YtaajpliifdlokaaGreatDoorGFrax
set_option linter.unusedVariables false
set_option linter.unusedSimpArgs false
namespace Go.Proofs.YtaajpliifdlokaaGreatDoor
open Go.RowKit
def relJ (a b : Ta) (i n : Nat) : List Rl := (List.range n).map fun (j : Nat) => relL a b i j
def relI (a b : Ta) (n : Nat) : List Rl := (List.range n).flatMap fun i => relJ a b i b.cols.length
def relB (a b : Ta) : List Rl := if a.id < b.id then relI a b a.cols.length else []
def relA (ts : List Ta) (a : Ta) : List Rl := ts.flatMap (relB a)
def relsL (ts : List Ta) : List Rl := ts.flatMap (relA ts)
theorem relJ_succ (a b : Ta) (i j : Nat) : relJ a b i (j + 1) = relJ a b i j ++ [relL a b i j] := by simp [relJ, List.range_succ]
theorem relI_succ (a b : Ta) (i : Nat) : relI a b (i + 1) = relI a b i ++ relJ a b i b.cols.length := by simp [relI, List.range_succ]
theorem flat_take {f : Ta → List Rl} {ts : List Ta} {y : Nat} (h : y < ts.length) : (ts.take (y + 1)).flatMap f = (ts.take y).flatMap f ++ f (ts.getD y Ta.z) := by
  rw [List.take_succ_eq_append_getElem h, List.flatMap_append]
  simp [List.getD, h]
theorem relJ_len (a b : Ta) (i n : Nat) : (relJ a b i n).length = n := by simp [relJ]
theorem flat_len {α : Type} {f : α → List Rl} {M : Nat} : ∀ {l : List α}, (∀ x ∈ l, (f x).length ≤ M) → (l.flatMap f).length ≤ l.length * M
  | [], _ => by simp
  | x :: l, h => by
    have h1 := h x (by simp)
    have h2 := flat_len (f := f) (M := M) (l := l) fun y hy => h y (by simp [hy])
    rw [List.flatMap_cons, List.length_append, List.length_cons, Nat.add_mul]
    omega
theorem relI_len {a b : Ta} (hb : b.cols.length ≤ 8) {n : Nat} (hn : n ≤ 8) : (relI a b n).length ≤ 64 := by
  have h := flat_len (f := fun i => relJ a b i b.cols.length) (M := 8) (l := List.range n) fun i _ => by rw [relJ_len]; exact hb
  rw [List.length_range] at h
  have : n * 8 ≤ 8 * 8 := Nat.mul_le_mul_right _ hn
  unfold relI
  omega
theorem relB_len {a b : Ta} (ha : a.cols.length ≤ 8) (hb : b.cols.length ≤ 8) : (relB a b).length ≤ 64 := by
  unfold relB
  split
  · exact relI_len hb ha
  · simp
def FewT (ts : List Ta) : Prop := ts.length ≤ 8 ∧ ∀ t ∈ ts, t.cols.length ≤ 8
theorem takeB_len {ts : List Ta} (h : FewT ts) {a : Ta} (ha : a ∈ ts) (y : Nat) : ((ts.take y).flatMap (relB a)).length ≤ 512 := by
  have h1 := flat_len (f := relB a) (M := 64) (l := ts.take y) fun b hb => relB_len (h.2 a ha) (h.2 b (List.mem_of_mem_take hb))
  have h2 : (ts.take y).length ≤ 8 := by rw [List.length_take]; have := h.1; omega
  have : (ts.take y).length * 64 ≤ 8 * 64 := Nat.mul_le_mul_right _ h2
  omega
theorem takeA_len {ts : List Ta} (h : FewT ts) (x : Nat) : ((ts.take x).flatMap (relA ts)).length ≤ 4096 := by
  have h1 := flat_len (f := relA ts) (M := 512) (l := ts.take x) fun a ha => by
    have := takeB_len h (List.mem_of_mem_take ha) ts.length
    rw [List.take_length] at this
    exact this
  have h2 : (ts.take x).length ≤ 8 := by rw [List.length_take]; have := h.1; omega
  have : (ts.take x).length * 512 ≤ 8 * 512 := Nat.mul_le_mul_right _ h2
  omega
def enL (p q : Nat) (r : Rl) : Bool := Fr.enR r.co.toNat r.oa.toNat r.ob.toNat p q
def goodL (ts : List Ta) (p q : Nat) : List Rl := (relsL ts).filter (enL p q)
theorem filt_le (P : Rl → Bool) (l : List Rl) : (l.filter P).length ≤ l.length := List.length_filter_le _ _
theorem relL_form (a b : Ta) (i j : Nat) : ∃ c o1 o2 : Nat, ∃ ma mb la lb : Int, relL a b i j = ⟨a.id, i, b.id, j, (c : Int), (o1 : Int), (o2 : Int), ma, mb, la, lb⟩ ∧ c + o1 = (setOfL (txC a i)).length ∧ c + o2 = (setOfL (txC b j)).length := by
  refine ⟨(cmK (txC a i) (txC b j)).length, (setOfL (txC a i)).length - (cmK (txC a i) (txC b j)).length, (setOfL (txC b j)).length - (cmK (txC a i) (txC b j)).length, (mostK (txC a i) (txC b j) : Int), (mostK (txC b j) (txC a i) : Int), (rowsC a.cols : Int) - takenK (txC a i) (txC b j), (rowsC b.cols : Int) - takenK (txC b j) (txC a i), ?_, ?_, ?_⟩
  · have h1 := cmK_len (txC a i) (txC b j)
    have h2 : (cmK (txC a i) (txC b j)).length ≤ (setOfL (txC b j)).length := by rw [cmK_comm]; exact cmK_len _ _
    unfold relL
    congr 1
    · omega
    · omega
  · have h1 := cmK_len (txC a i) (txC b j)
    omega
  · have h2 : (cmK (txC a i) (txC b j)).length ≤ (setOfL (txC b j)).length := by rw [cmK_comm]; exact cmK_len _ _
    omega
end Go.Proofs.YtaajpliifdlokaaGreatDoor

namespace Go.Proofs.YtaajpliifdlokaaGreatDoor
open Go.RowKit
theorem OwnR.apart {w : World} {base : Nat} {v : Value} {rs : List Rl} (h : OwnR w base v rs) {b : Nat} {t : TypeId} {vs : Array Value} (hb : BoxN w b t vs) (ht : t ≠ 44) : some b ≠ v.ownBlock := fun e => by
  obtain ⟨-, h⟩ := h
  rcases h with ⟨e1, -⟩ | ⟨g, cap, cur, e1, -, h3, -⟩
  · rw [e1] at e; cases e
  · rw [e1] at e
    obtain rfl := Option.some.inj e
    rw [hb] at h3
    have h4 := Option.some.inj h3
    injection h4 with _ h5 _
    exact ht h5
def BuildRP (w : World) (ts : List Ta) (p q : Nat) (e : Ending) (w' : World) : Prop :=
  ∃ x rs, e = .returned (.tuple #[x, .int .i64 0]) ∧ rs.Perm (goodL ts p q) ∧ rs.Pairwise (fun a b => ¬ ltR b a) ∧ OwnR w' w.heap.size x rs ∧ Below w.heap.size w w'
set_option maxRecDepth 100000 in
set_option maxHeartbeats 8000000 in
theorem graph_Build (v u : Value) (ts : List Ta) (p q B : Nat) (w : World) (h : ListV ts) (hf : FewT ts) (hv : RdTa w (· < B) v ts) (hB : B ≤ w.heap.size) (hu : Fr.RdF w u false p q) (hs : Fr.Sml p q) (hpq : p ≤ q) (hT : Tabs w) (h1 : Fr.OneAt w) :
  Calls Tryz.prog 15 #[v, u] w (BuildRP w ts p q) := by
 have HV := hid (fun W (hW : Below w.heap.size w W) => hv.keep (w' := W) fun p (hp : p.block < B) => hW.cell (p := p) (by omega))
 have HPE := hid (fun W (hW : Below w.heap.size w W) => lists_PermittedL v ts B W h (hv.keep (w' := W) fun p (hp : p.block < B) => hW.cell (p := p) (by omega)) (Nat.le_trans hB hW.size) (hT.below hW))
 have HSI := hid (fun W (hW : Below w.heap.size w W) => Fr.num_Sign u p q W (hu.kept hW) hs (h1.below hW))
 have HOF : Hid (∀ W, Calls Tryz.prog 41 #[.int .i64 1, .int .i64 1] W (Fr.GivesF W false 1 1)) := hid (fun W => by
  have h2 := Fr.num_Of 1 1 W (by omega) (by omega) (by omega)
  simpa using h2)
 have HCM := hid (fun W y (hW : Below w.heap.size w W) (hy : Fr.RdF W y false 1 1) => Fr.frac_Cmp u y p q 1 1 W (hu.kept hW) hy hs ⟨by omega, by omega, by omega, by decide⟩ (h1.below hW))
 have HEN := hid (fun W (hW : Below w.heap.size w W) ta ca tb cb c o1 o2 ma mb la lb (h2 : c + o1 < 4294967296) (h3 : c + o2 < 4294967296) => Fr.graph_enough ta ca tb cb c o1 o2 ma mb la lb u p q W h2 h3 (hu.kept hW) hs (h1.below hW))
 have HOFR := hid (fun W (hW : Below w.heap.size w W) (a b : Ta) (x y : Value) (i j : Nat) (ha : a ∈ ts) (hb : b ∈ ts) (hi : i < a.cols.length) (hj : j < b.cols.length) (hx : RdCo W (· < B) x a.cols) (hy : RdCo W (· < B) y b.cols) => rel_Of a b x y i j B W (h.2.1 a ha) (h.2.1 b hb) hi hj hx hy (Nat.le_trans hB hW.size) (hT.below hW))
 have HTX := hid (fun (a : Ta) (ha : a ∈ ts) i => Nat.le_trans (setOfL_len _) (tx_len (h.2.1 a ha) i))
 have HFEW := hid hf
 have HBL := hid (fun (a b : Ta) (ha : a ∈ ts) (hb : b ∈ ts) => (hf.2 a ha : a.cols.length ≤ 8))
 have hN8 := hf.1
 have hg1 : 0 ≤ Fr.sgn p 0 := by
  rcases Nat.eq_zero_or_pos p with e | e
  ·rw [e, Fr.sgn_self]; omega
  ·rw [Fr.sgn_gt e]; omega
 have hg2 : ¬ (0 : Int) < Fr.sgn (p * 1) (1 * q) := by
  rw [Nat.mul_one, Nat.one_mul]
  rcases Nat.lt_or_ge p q with e | e
  ·rw [Fr.sgn_lt e]; omega
  ·rw [show p = q by omega, Fr.sgn_self]; omega
 have hg1n : ¬ Fr.sgn p 0 < 0 := by omega
 obtain ⟨fa1, fc1, fb1, fd1, rfl, -, -⟩ := hu
 obtain ⟨va, vc, rfl⟩ : ∃ x y, v = .slice x ts.length y := by
  obtain ⟨tv, ⟨x, y, e, -⟩, -⟩ := hv
  exact ⟨x, y, e⟩
 clear hv h hf hs h1 hT
 generalize Fr.sgn p 0 = g1 at *
 generalize Fr.sgn (p * 1) (1 * q) = g2 at *
 generalize (Fr.dig p).length = l1 at *
 generalize (Fr.dig q).length = k1 at *
 have hg1d : decide (g1 < 0) = false := decide_eq_false hg1n
 have hg2d : decide (0 < g2) = false := decide_eq_false hg2
 obtain ⟨N, hN⟩ : ∃ N, N = ts.length := ⟨_, rfl⟩
 rw [← hN] at HV HPE hN8
 rw [← hN]
 have HN := hid hN.symm
 clear hN
 have hx3 := BoxN.new w #[.bool false, .slice fa1 l1 fc1, .bool false, .slice fb1 k1 fd1] 33
 have hs0 := (Below.refl w.heap.size w).alloc (Nat.le_refl _) (.cells #[.bool false, .slice fa1 l1 fc1, .bool false, .slice fb1 k1 fd1] 33)
 obtain ⟨W0, hW0⟩ : ∃ W, W = w.alloc (.cells #[.bool false, .slice fa1 l1 fc1, .bool false, .slice fb1 k1 fd1] 33) := ⟨_, rfl⟩
 rw [← hW0] at hx3 hs0
 have HS0 := hid hs0
 have HX3 := hid (fun W (hW : Below W0.heap.size W0 W) => hx3.below hW hx3.lt)
 have hw0 : W0.heap.size = w.heap.size + 1 := by rw [hW0, World.size_alloc]
 have HW0 := hid hw0
 have hl0 := hx3.lt
 clear hx3 hs0 hw0
 go_enter Tryz.func15, Tryz.ntmps15
 generalize hLA : Code.loop _ = LA
 go_wp2_with fail
 rw [← hW0]
 clear hW0
 with_reducible refine (HPE.out W0 HS0.out).mono ?_
 rintro e w1 ⟨rfl, hb1⟩
 have HS1 := hid hb1
 have HT1 := hid (HS0.out.trans (hb1.mono HS0.out.size))
 clear hb1 HPE
 go_upto_region 3 with fail
 have HG := hid (fun W (hW : Below w1.heap.size w1 W) => (by
  have h2 := HX3.out W (HS1.out.trans (hW.mono HS1.out.size))
  exact ⟨h2.cell 0 rfl, h2.cell 1 rfl, h2.cell 2 rfl, h2.cell 3 rfl⟩ : W.cell? ⟨w.heap.size, 0, none⟩ = some (.bool false) ∧ W.cell? ⟨w.heap.size, 1, none⟩ = some (.slice fa1 l1 fc1) ∧ W.cell? ⟨w.heap.size, 2, none⟩ = some (.bool false) ∧ W.cell? ⟨w.heap.size, 3, none⟩ = some (.slice fb1 k1 fd1)))
 have HD := hid ((Below.refl w1.heap.size w1).drew)
 have HT := hid (fun W (hW : Below w1.heap.size w1 W) => HT1.out.trans (hW.mono HT1.out.size))
 go_region_held3 (fun W => W.cell? ⟨w.heap.size, 0, none⟩ = some (.bool false) ∧ W.cell? ⟨w.heap.size, 1, none⟩ = some (.slice fa1 l1 fc1) ∧ W.cell? ⟨w.heap.size, 2, none⟩ = some (.bool false) ∧ W.cell? ⟨w.heap.size, 3, none⟩ = some (.slice fb1 k1 fd1))
  (first | exact HG.out _ HD.out | exact HG.out _ HD5.out | exact HG.out _ HD6.out | exact HG.out _ HD7.out | go_keep)
  (first
   | (go_at_call 39; go_must ((with_reducible refine (HSI.out _ (HT.out _ HD.out)).mono ?_); rintro e w5 ⟨rfl, hb5⟩; have HD5 := hid (Fr.belowT HD.out hb5); clear hb5))
   | (go_at_call 41; go_must ((with_reducible refine (HOF.out _).mono ?_); rintro e w6 ⟨a6, c6, b6, d6, rfl, hN, hb6⟩; have HD6 := hid (Fr.belowT HD5.out hb6); have HN6 := hid (hN.rd false); clear hN hb6))
   | (go_at_call 40; go_must ((with_reducible refine (HCM.out _ _ (HT.out _ HD6.out) HN6.out).mono ?_); rintro e w7 ⟨rfl, hb7⟩; have HD7 := hid (Fr.belowT HD6.out hb7); clear hb7)))
 have HT7 := hid (HT.out _ HD7.out)
 have HX7 := hid (HX3.out _ (HS1.out.trans (HD7.out.mono HS1.out.size)))
 have h7 := HT7.out.size
 have h7l := HX7.out.lt
 clear HG HD HT HD5 HD6 HD7 HN6 HX3 HT1 HS1
 subst hLA
 go_wp2_with fail
 go_loopg [6, 31] N (fun K ov i wr => ∃ x : Nat, i = .int .i64 (x : Int) ∧ x + K = N ∧ Hid (Below w.heap.size w wr) ∧ Hid (BoxN wr w.heap.size 33 #[.bool false, .slice fa1 l1 fc1, .bool false, .slice fb1 k1 fd1]) ∧ Hid (OwnR wr (w.heap.size + 1) ov (((ts.take x).flatMap (relA ts)).filter (enL p q))))
 case atStart => exact ⟨0, rfl, by omega, HT7, HX7, hid (ownR_start _ _)⟩
 case round =>
  obtain ⟨x, rfl, hx, HB1, HF1, HO1⟩ := hrel
  obtain ⟨wA, rfl⟩ : ∃ W, W = wr := ⟨wr, rfl⟩
  obtain ⟨gA, rfl⟩ : ∃ g, g = gk := ⟨gk, rfl⟩
  have hwA := HB1.out.size
  by_cases hp1 : 0 < gA
  ·have hxN : x < N := by omega
   have hxi : (x : Int) < (N : Int) := by omega
   obtain ⟨tbk, tof, c', xa, ya, e3, hb', hra, k0, k1', k2⟩ := ta_at (HV.out wA HB1.out) (q := x) (by rw [HN.out]; exact hxN)
   rw [HN.out] at e3
   obtain ⟨rfl, -, rfl⟩ := Value.slice.inj e3
   have ham : ts.getD x Ta.z ∈ ts := getD_mem (by rw [HN.out]; exact hxN) _
   have HMA := hid ham
   have HNX : Hid (((ts.take (x + 1)).flatMap (relA ts)).filter (enL p q) = ((ts.take x).flatMap (relA ts)).filter (enL p q) ++ (ts.flatMap (relB (ts.getD x Ta.z))).filter (enL p q)) := hid (by rw [@flat_take (relA ts) ts x (by rw [HN.out]; exact hxN), List.filter_append]; rfl)
   have hlen1 := Nat.le_trans (filt_le (enL p q) ((ts.take x).flatMap (relA ts))) (takeA_len HFEW.out x)
   have hra0 := fun W (hW : Below wA.heap.size wA W) => (hra.keep (w' := W) fun p (hp : p.block < B) => hW.cell (p := p) (by omega))
   have HRA := hid (fun W (hW : Below w.heap.size w W) => (by
    obtain ⟨b2, o2, c2, xa2, ya2, e4, -, hr2, -, -, m2⟩ := ta_at (HV.out W hW) (q := x) (by rw [HN.out]; exact hxN)
    obtain ⟨e5, -, -⟩ := Value.slice.inj e4
    obtain ⟨e6, e7⟩ : tbk = b2 ∧ tof = o2 := by simpa using e5
    subst e6 e7
    have m3 : W.cell? ⟨tbk, tof + x * 3 + 2, none⟩ = wA.cell? ⟨tbk, tof + x * 3 + 2, none⟩ := (hW.cell (p := ⟨tbk, tof + x * 3 + 2, none⟩) (by show tbk < _; have h6 : tbk < B := hb'; omega)).trans (HB1.out.cell (p := ⟨tbk, tof + x * 3 + 2, none⟩) (by show tbk < _; have h6 : tbk < B := hb'; omega)).symm
    rw [m2, k2] at m3
    rw [Option.some.inj m3] at hr2
    exact hr2 : RdCo W (· < B) (.slice xa (ts.getD x Ta.z).cols.length ya) (ts.getD x Ta.z).cols))
   clear e3 hb' hra hra0 ham
   generalize ((ts.take x).flatMap (relA ts)).filter (enL p q) = pre1 at *
   generalize ts.getD x Ta.z = a at *
   have hLa8 := HFEW.out.2 a HMA.out
   obtain ⟨La, hLa⟩ : ∃ La, La = a.cols.length := ⟨_, rfl⟩
   rw [← hLa] at k2 HRA hLa8
   have HLA := hid hLa.symm
   clear hLa
   have hax := BoxN.new wA #[.int .i64 a.id, .string a.name, .slice xa La ya] 51
   have HBa := hid (HB1.out.alloc hwA (.cells #[.int .i64 a.id, .string a.name, .slice xa La ya] 51))
   have HFa := hid (HF1.out.alloc (.cells #[.int .i64 a.id, .string a.name, .slice xa La ya] 51))
   have HOa := hid (HO1.out.later ((Below.refl wA.heap.size wA).alloc (Nat.le_refl _) (.cells #[.int .i64 a.id, .string a.name, .slice xa La ya] 51)))
   have HAX := hid hax
   clear hax
   generalize hLB : Code.loop _ = LB
   go_wp2_with fail
   generalize wA.alloc (.cells #[.int .i64 a.id, .string a.name, .slice xa La ya] 51) = WA at *
   generalize wA.heap.size = ab at *
   subst hLB
   go_loopg [6, 37] N (fun K ov i wr => ∃ y : Nat, i = .int .i64 (y : Int) ∧ y + K = N ∧ Hid (Below w.heap.size w wr) ∧ Hid (BoxN wr w.heap.size 33 #[.bool false, .slice fa1 l1 fc1, .bool false, .slice fb1 k1 fd1]) ∧ Hid (BoxN wr ab 51 #[.int .i64 a.id, .string a.name, .slice xa La ya]) ∧ Hid (OwnR wr (w.heap.size + 1) ov (pre1 ++ ((ts.take y).flatMap (relB a)).filter (enL p q))))
   case atStart => exact ⟨0, rfl, by omega, HBa, HFa, HAX, hid (by rw [List.take_zero, List.flatMap_nil, List.filter_nil, List.append_nil]; exact HOa.out)⟩
   case round =>
    clear HBa HFa HAX HOa HB1 HF1 HO1
    obtain ⟨y, rfl, hy, HB1, HF1, HA1, HO1⟩ := hrel
    obtain ⟨wB, rfl⟩ : ∃ W, W = wr := ⟨wr, rfl⟩
    obtain ⟨gB, rfl⟩ : ∃ g, g = gk := ⟨gk, rfl⟩
    have hwB := HB1.out.size
    have habB := HA1.out.lt
    by_cases hp2 : 0 < gB
    ·have hyN : y < N := by omega
     have hyi : (y : Int) < (N : Int) := by omega
     obtain ⟨b', o', c', xb, yb, e3, hb', hrb, k0, k1', k2⟩ := ta_at (HV.out wB HB1.out) (q := y) (by rw [HN.out]; exact hyN)
     rw [HN.out] at e3
     obtain ⟨e5, -, -⟩ := Value.slice.inj e3
     obtain ⟨e8, e9⟩ : tbk = b' ∧ tof = o' := by simpa using e5
     subst e8 e9
     have hbm : ts.getD y Ta.z ∈ ts := getD_mem (by rw [HN.out]; exact hyN) _
     have HMB := hid hbm
     have HNY := hid (@flat_take (relB a) ts y (by rw [HN.out]; exact hyN))
     have hlen2 := Nat.le_trans (filt_le (enL p q) ((ts.take y).flatMap (relB a))) (takeB_len HFEW.out HMA.out y)
     have HRB := hid (fun W (hW : Below w.heap.size w W) => (by
      obtain ⟨b2, o2, c2, xa2, ya2, e4, -, hr2, -, -, m2⟩ := ta_at (HV.out W hW) (q := y) (by rw [HN.out]; exact hyN)
      obtain ⟨e6, -, -⟩ := Value.slice.inj e4
      obtain ⟨e8, e9⟩ : tbk = b2 ∧ tof = o2 := by simpa using e6
      subst e8 e9
      have m3 : W.cell? ⟨tbk, tof + y * 3 + 2, none⟩ = wB.cell? ⟨tbk, tof + y * 3 + 2, none⟩ := (hW.cell (p := ⟨tbk, tof + y * 3 + 2, none⟩) (by show tbk < _; have h6 : tbk < B := hb'; omega)).trans (HB1.out.cell (p := ⟨tbk, tof + y * 3 + 2, none⟩) (by show tbk < _; have h6 : tbk < B := hb'; omega)).symm
      rw [m2, k2] at m3
      rw [Option.some.inj m3] at hr2
      exact hr2 : RdCo W (· < B) (.slice xb (ts.getD y Ta.z).cols.length yb) (ts.getD y Ta.z).cols))
     clear e3 e5 hb' hrb hbm
     have hpl : (pre1 ++ ((ts.take y).flatMap (relB a)).filter (enL p q)).length ≤ 4096 + 512 := by rw [List.length_append]; omega
     have HPE2 := hid (List.append_assoc pre1 (((ts.take y).flatMap (relB a)).filter (enL p q)))
     have HNY2 : Hid (pre1 ++ ((ts.take (y + 1)).flatMap (relB a)).filter (enL p q) = pre1 ++ ((ts.take y).flatMap (relB a)).filter (enL p q) ++ (relB a (ts.getD y Ta.z)).filter (enL p q)) := hid (by rw [HNY.out, List.filter_append, List.append_assoc])
     clear hlen2 HPE2 HNY
     generalize pre1 ++ ((ts.take y).flatMap (relB a)).filter (enL p q) = pre2 at *
     generalize ts.getD y Ta.z = b at *
     have hLb8 := HFEW.out.2 b HMB.out
     obtain ⟨Lb, hLb⟩ : ∃ Lb, Lb = b.cols.length := ⟨_, rfl⟩
     rw [← hLb] at k2 HRB hLb8
     have HLB := hid hLb.symm
     clear hLb
     have hbx := BoxN.new wB #[.int .i64 b.id, .string b.name, .slice xb Lb yb] 51
     have HBb := hid (HB1.out.alloc hwB (.cells #[.int .i64 b.id, .string b.name, .slice xb Lb yb] 51))
     have HFb := hid (HF1.out.alloc (.cells #[.int .i64 b.id, .string b.name, .slice xb Lb yb] 51))
     have HAb := hid (HA1.out.alloc (.cells #[.int .i64 b.id, .string b.name, .slice xb Lb yb] 51))
     have HOb := hid (HO1.out.later ((Below.refl wB.heap.size wB).alloc (Nat.le_refl _) (.cells #[.int .i64 b.id, .string b.name, .slice xb Lb yb] 51)))
     have HBX := hid hbx
     have hi0 := HAb.out.cell 0 rfl
     have hj0 := hbx.cell 0 rfl
     have hbl := hbx.lt
     clear hbx
     by_cases hlt : a.id < b.id
     ·have hge : ¬ b.id ≤ a.id := by omega
      have hgd : decide (b.id ≤ a.id) = false := decide_eq_false hge
      have HNY3 : Hid (relB a b = relI a b La) := hid (by unfold relB; rw [if_pos hlt, HLA.out])
      have ha2 := HAb.out.cell 2 rfl
      generalize hLC : Code.loop _ = LC
      go_wp2_with fail
      generalize wB.alloc (.cells #[.int .i64 b.id, .string b.name, .slice xb Lb yb] 51) = WB at *
      generalize wB.heap.size = bb at *
      clear hi0 hj0 ha2
      subst hLC
      go_loopg [6, 49] La (fun K ov i wr => ∃ z : Nat, i = .int .i64 (z : Int) ∧ z + K = La ∧ Hid (Below w.heap.size w wr) ∧ Hid (BoxN wr w.heap.size 33 #[.bool false, .slice fa1 l1 fc1, .bool false, .slice fb1 k1 fd1]) ∧ Hid (BoxN wr ab 51 #[.int .i64 a.id, .string a.name, .slice xa La ya]) ∧ Hid (BoxN wr bb 51 #[.int .i64 b.id, .string b.name, .slice xb Lb yb]) ∧ Hid (OwnR wr (w.heap.size + 1) ov (pre2 ++ (relI a b z).filter (enL p q))))
      case atStart => exact ⟨0, rfl, by omega, HBb, HFb, HAb, HBX, hid (by show OwnR _ _ _ (pre2 ++ ([] : List Rl).filter (enL p q)); rw [List.filter_nil, List.append_nil]; exact HOb.out)⟩
      case round =>
       clear HBb HFb HAb HBX HOb HB1 HF1 HA1 HO1
       obtain ⟨i, rfl, hi, HB1, HF1, HA1, HX1, HO1⟩ := hrel
       obtain ⟨wC, rfl⟩ : ∃ W, W = wr := ⟨wr, rfl⟩
       obtain ⟨gC, rfl⟩ : ∃ g, g = gk := ⟨gk, rfl⟩
       have hwC := HB1.out.size
       by_cases hp3 : 0 < gC
       ·have hiL : i < La := by omega
        have hii : (i : Int) < (La : Int) := by omega
        have hpl3 : (pre2 ++ (relI a b i).filter (enL p q)).length ≤ 4096 + 512 + 64 := by
         rw [List.length_append]
         have h1 := filt_le (enL p q) (relI a b i)
         have h2 := relI_len (a := a) (b := b) (by rw [HLB.out]; exact hLb8) (n := i) (by omega)
         omega
        have HNI : Hid (pre2 ++ (relI a b (i + 1)).filter (enL p q) = pre2 ++ (relI a b i).filter (enL p q) ++ (relJ a b i Lb).filter (enL p q)) := hid (by rw [relI_succ, List.filter_append, List.append_assoc, HLB.out])
        generalize pre2 ++ (relI a b i).filter (enL p q) = pre3 at *
        have hb2 := HX1.out.cell 2 rfl
        generalize hLD : Code.loop _ = LD
        go_wp2_with fail
        subst hLD
        clear hb2
        go_loopg [6, 55] Lb (fun K ov i' wr => ∃ z : Nat, i' = .int .i64 (z : Int) ∧ z + K = Lb ∧ Hid (Below w.heap.size w wr) ∧ Hid (BoxN wr w.heap.size 33 #[.bool false, .slice fa1 l1 fc1, .bool false, .slice fb1 k1 fd1]) ∧ Hid (BoxN wr ab 51 #[.int .i64 a.id, .string a.name, .slice xa La ya]) ∧ Hid (BoxN wr bb 51 #[.int .i64 b.id, .string b.name, .slice xb Lb yb]) ∧ Hid (OwnR wr (w.heap.size + 1) ov (pre3 ++ (relJ a b i z).filter (enL p q))))
        case atStart => exact ⟨0, rfl, by omega, HB1, HF1, HA1, HX1, hid (by show OwnR _ _ _ (pre3 ++ ([] : List Rl).filter (enL p q)); rw [List.filter_nil, List.append_nil]; exact HO1.out)⟩
        case round =>
         clear HB1 HF1 HA1 HX1 HO1
         obtain ⟨j, rfl, hj, HB1, HF1, HA1, HX1, HO1⟩ := hrel
         obtain ⟨wD, rfl⟩ : ∃ W, W = wr := ⟨wr, rfl⟩
         have hwD := HB1.out.size
         obtain ⟨ua, uc, rfl⟩ := HO1.out.len
         by_cases hp4 : 0 < gk
         ·have hjL : j < Lb := by omega
          have hji : (j : Int) < (Lb : Int) := by omega
          have HNJ : Hid ((relJ a b i (j + 1)).filter (enL p q) = (relJ a b i j).filter (enL p q) ++ ([relL a b i j]).filter (enL p q)) := hid (by rw [relJ_succ, List.filter_append])
          have hpl4 : (pre3 ++ (relJ a b i j).filter (enL p q)).length ≤ 5000 := by
           rw [List.length_append]
           have h1 := filt_le (enL p q) (relJ a b i j)
           rw [relJ_len] at h1
           omega
          have HPP : Hid (pre3 ++ (relJ a b i (j + 1)).filter (enL p q) = pre3 ++ (relJ a b i j).filter (enL p q) ++ ([relL a b i j]).filter (enL p q)) := hid (by rw [HNJ.out, List.append_assoc])
          clear HNJ
          generalize pre3 ++ (relJ a b i j).filter (enL p q) = pre4 at *
          have HRL := hid (HOFR.out wD HB1.out a b (.slice xa La ya) (.slice xb Lb yb) i j HMA.out HMB.out (by rw [HLA.out]; exact hiL) (by rw [HLB.out]; exact hjL) (HRA.out wD HB1.out) (HRB.out wD HB1.out))
          have hTA := HTX.out a HMA.out i
          have hTB := HTX.out b HMB.out j
          obtain ⟨c, o1, o2, ma, mb, la, lb, hform, hc1, hc2⟩ := relL_form a b i j
          have HFORM := hid hform
          have hd1 : c + o1 < 4294967296 := by omega
          have hd2 : c + o2 < 4294967296 := by omega
          rw [hform] at HRL HPP
          clear hform hc1 hc2 hTA hTB
          unfold GivesRl at HRL
          simp only [Rl.val, Rl.cs] at HRL
          have a0 := HA1.out.cell 0 rfl
          have a1 := HA1.out.cell 1 rfl
          have a2 := HA1.out.cell 2 rfl
          have b0 := HX1.out.cell 0 rfl
          have b1 := HX1.out.cell 1 rfl
          have b2 := HX1.out.cell 2 rfl
          go_wp2_with fail
          clear a0 a1 a2 b0 b1 b2
          with_reducible refine HRL.out.mono ?_
          rintro e w5 ⟨rfl, hb5⟩
          clear HRL
          have hz5 := hb5.size
          have HB5 := hid (HB1.out.trans (hb5.mono hwD))
          have h5s := HB5.out.size
          have HF5 := hid (HF1.out.below hb5 HF1.out.lt)
          have HA5 := hid (HA1.out.below hb5 HA1.out.lt)
          have HX5 := hid (HX1.out.below hb5 HX1.out.lt)
          have HO5 := hid (HO1.out.later hb5)
          clear hb5
          have hr := BoxN.new w5 #[.int .i64 a.id, .int .i64 (i : Int), .int .i64 b.id, .int .i64 (j : Int), .int .i64 (c : Int), .int .i64 (o1 : Int), .int .i64 (o2 : Int), .int .i64 ma, .int .i64 mb, .int .i64 la, .int .i64 lb] 44
          have hsx := (Below.refl w5.heap.size w5).alloc (Nat.le_refl _) (.cells #[.int .i64 a.id, .int .i64 (i : Int), .int .i64 b.id, .int .i64 (j : Int), .int .i64 (c : Int), .int .i64 (o1 : Int), .int .i64 (o2 : Int), .int .i64 ma, .int .i64 mb, .int .i64 la, .int .i64 lb] 44)
          obtain ⟨X, hX⟩ : ∃ W, W = w5.alloc (.cells #[.int .i64 a.id, .int .i64 (i : Int), .int .i64 b.id, .int .i64 (j : Int), .int .i64 (c : Int), .int .i64 (o1 : Int), .int .i64 (o2 : Int), .int .i64 ma, .int .i64 mb, .int .i64 la, .int .i64 lb] 44) := ⟨_, rfl⟩
          rw [← hX] at hr hsx
          have HR6 := hid hr
          have HB6 := hid (HB5.out.trans (hsx.mono h5s))
          have HF6 := hid (HF5.out.below hsx HF5.out.lt)
          have HA6 := hid (HA5.out.below hsx HA5.out.lt)
          have HX6 := hid (HX5.out.below hsx HX5.out.lt)
          have HO6 := hid (HO5.out.later hsx)
          have r0 := hr.cell 0 rfl
          have r1 := hr.cell 1 rfl
          have r2 := hr.cell 2 rfl
          have r3 := hr.cell 3 rfl
          have r4 := hr.cell 4 rfl
          have r5 := hr.cell 5 rfl
          have r6 := hr.cell 6 rfl
          have r7 := hr.cell 7 rfl
          have r8 := hr.cell 8 rfl
          have r9 := hr.cell 9 rfl
          have r10 := hr.cell 10 rfl
          have f0 := HF6.out.cell 0 rfl
          have f1 := HF6.out.cell 1 rfl
          have f2 := HF6.out.cell 2 rfl
          have f3 := HF6.out.cell 3 rfl
          rw [hX] at r0 r1 r2 r3 r4 r5 r6 r7 r8 r9 r10 f0 f1 f2 f3
          have HE := hid (HEN.out X HB6.out a.id (i : Int) b.id (j : Int) c o1 o2 ma mb la lb hd1 hd2)
          simp only [Rl.val, Rl.cs] at HE
          have HQ : Hid (enL p q ⟨a.id, (i : Int), b.id, (j : Int), (c : Int), (o1 : Int), (o2 : Int), ma, mb, la, lb⟩ = Fr.enR c o1 o2 p q) := hid (by simp [enL])
          clear hr hsx HB5 HF5 HA5 HX5 HO5
          go_wp2_with fail
          rw [← hX]
          clear hX r0 r1 r2 r3 r4 r5 r6 r7 r8 r9 r10 f0 f1 f2 f3
          with_reducible refine HE.out.mono ?_
          rintro e w7 ⟨rfl, hb7⟩
          clear HE
          have HB7 := hid (HB6.out.trans (hb7.mono HB6.out.size))
          have h7s := HB7.out.size
          have HR7 := hid (HR6.out.below hb7 HR6.out.lt)
          have HF7 := hid (HF6.out.below hb7 HF6.out.lt)
          have HA7 := hid (HA6.out.below hb7 HA6.out.lt)
          have HX7b := hid (HX6.out.below hb7 HX6.out.lt)
          have HO7 := hid (HO6.out.later hb7)
          clear hb7 HB6 HR6 HF6 HA6 HX6 HO6
          generalize Fr.enR c o1 o2 p q = g at *
          cases g with
          | false =>
           have HN5 : Hid (pre3 ++ (relJ a b i (j + 1)).filter (enL p q) = pre4) := hid (by rw [HPP.out, List.filter_cons, HQ.out, List.filter_nil]; simp)
           go_wp2_with fail
           go_roundg (gk - 1)
           case rel => exact ⟨j + 1, by go_num, by omega, HB7, HF7, HA7, HX7b, hid (by rw [HN5.out]; exact HO7.out)⟩
           case measure => omega
          | true =>
           have HN5 : Hid (pre3 ++ (relJ a b i (j + 1)).filter (enL p q) = pre4 ++ [⟨a.id, (i : Int), b.id, (j : Int), (c : Int), (o1 : Int), (o2 : Int), ma, mb, la, lb⟩]) := hid (by rw [HPP.out, List.filter_cons, HQ.out, List.filter_nil]; simp)
           have r0 := HR7.out.cell 0 rfl
           have r1 := HR7.out.cell 1 rfl
           have r2 := HR7.out.cell 2 rfl
           have r3 := HR7.out.cell 3 rfl
           have r4 := HR7.out.cell 4 rfl
           have r5 := HR7.out.cell 5 rfl
           have r6 := HR7.out.cell 6 rfl
           have r7 := HR7.out.cell 7 rfl
           have r8 := HR7.out.cell 8 rfl
           have r9 := HR7.out.cell 9 rfl
           have r10 := HR7.out.cell 10 rfl
           have HB8 := hid (HB7.out.alloc h7s (.cells #[.int .i64 a.id, .int .i64 (i : Int), .int .i64 b.id, .int .i64 (j : Int), .int .i64 (c : Int), .int .i64 (o1 : Int), .int .i64 (o2 : Int), .int .i64 ma, .int .i64 mb, .int .i64 la, .int .i64 lb] 44))
           have HF8 := hid (HF7.out.alloc (.cells #[.int .i64 a.id, .int .i64 (i : Int), .int .i64 b.id, .int .i64 (j : Int), .int .i64 (c : Int), .int .i64 (o1 : Int), .int .i64 (o2 : Int), .int .i64 ma, .int .i64 mb, .int .i64 la, .int .i64 lb] 44))
           have HA8 := hid (HA7.out.alloc (.cells #[.int .i64 a.id, .int .i64 (i : Int), .int .i64 b.id, .int .i64 (j : Int), .int .i64 (c : Int), .int .i64 (o1 : Int), .int .i64 (o2 : Int), .int .i64 ma, .int .i64 mb, .int .i64 la, .int .i64 lb] 44))
           have HX8 := hid (HX7b.out.alloc (.cells #[.int .i64 a.id, .int .i64 (i : Int), .int .i64 b.id, .int .i64 (j : Int), .int .i64 (c : Int), .int .i64 (o1 : Int), .int .i64 (o2 : Int), .int .i64 ma, .int .i64 mb, .int .i64 la, .int .i64 lb] 44))
           have HO8 := hid (HO7.out.later ((Below.refl w7.heap.size w7).alloc (Nat.le_refl _) (.cells #[.int .i64 a.id, .int .i64 (i : Int), .int .i64 b.id, .int .i64 (j : Int), .int .i64 (c : Int), .int .i64 (o1 : Int), .int .i64 (o2 : Int), .int .i64 ma, .int .i64 mb, .int .i64 la, .int .i64 lb] 44)))
           have HBN8 := hid (BoxN.new w7 #[.int .i64 a.id, .int .i64 (i : Int), .int .i64 b.id, .int .i64 (j : Int), .int .i64 (c : Int), .int .i64 (o1 : Int), .int .i64 (o2 : Int), .int .i64 ma, .int .i64 mb, .int .i64 la, .int .i64 lb] 44)
           have hbs8 := HF7.out.lt
           go_wp2_with (at_builtin; refine wpList_append_rl rfl _ _ rfl (w.heap.size + 1) (.slice ua pre4.length uc) pre4 rfl HO8.out ⟨a.id, (i : Int), b.id, (j : Int), (c : Int), (o1 : Int), (o2 : Int), ma, mb, la, lb⟩ w7.heap.size 1 44 rfl HBN8.out (by omega) (by rw [World.size_alloc]; omega) ?_; intro g cap w9 hown9 hg9; have HOWN9 := hid hown9; have HB9 := hid (HB8.out.grown hg9 (by rw [World.size_alloc]; omega) (fun k hk => by have h1 := (HO8.out.lt k hk).1; omega)); have HF9 := hid (HF8.out.grown hg9 (HO8.out.apart HF8.out (by decide))); have HA9 := hid (HA8.out.grown hg9 (HO8.out.apart HA8.out (by decide))); have HX9 := hid (HX8.out.grown hg9 (HO8.out.apart HX8.out (by decide))); clear hown9 hg9)
           go_roundg (gk - 1)
           case rel => exact ⟨j + 1, by go_num, by omega, HB9, HF9, HA9, HX9, hid (by rw [HN5.out]; exact HOWN9.out)⟩
           case measure => omega
         ·obtain rfl : gk = 0 := by omega
          obtain rfl : j = Lb := by omega
          go_wp2_with fail
          go_roundg (gC - 1)
          case rel => exact ⟨i + 1, by go_num, by omega, HB1, HF1, HA1, HX1, hid (by rw [HNI.out]; exact HO1.out)⟩
          case measure => omega
       ·obtain rfl : gC = 0 := by omega
        obtain rfl : i = La := by omega
        go_wp2_with fail
        go_roundg (gB - 1)
        case rel => exact ⟨y + 1, by go_num, by omega, HB1, HF1, HA1, hid (by rw [HNY2.out, HNY3.out]; exact HO1.out)⟩
        case measure => omega
     ·have hge : b.id ≤ a.id := by omega
      have hgd : decide (b.id ≤ a.id) = true := decide_eq_true hge
      have HNY3 : Hid (relB a b = []) := hid (by unfold relB; rw [if_neg hlt])
      go_wp2_with fail
      go_roundg (gB - 1)
      case rel => exact ⟨y + 1, by go_num, by omega, HBb, HFb, HAb, hid (by rw [HNY2.out, HNY3.out, List.filter_nil, List.append_nil]; exact HOb.out)⟩
      case measure => omega
    ·obtain rfl : gB = 0 := by omega
     obtain rfl : y = N := by omega
     go_wp2_with fail
     go_roundg (gA - 1)
     case rel => exact ⟨x + 1, by go_num, by omega, HB1, HF1, hid (by rw [HNX.out]; have h1 := HO1.out; rw [show ts.take y = ts by rw [← HN.out, List.take_length]] at h1; exact h1)⟩
     case measure => omega
  ·obtain rfl : gA = 0 := by omega
   obtain rfl : x = N := by omega
   have h1 := HO1.out
   rw [show ts.take x = ts by rw [← HN.out, List.take_length]] at h1
   change OwnR _ _ _ (goodL ts p q) at h1
   obtain ⟨oa, oc, rfl⟩ := h1.len
   have HO2 := hid h1
   clear h1
   have hlA := HF1.out.lt
   have hgl : (goodL ts p q).length ≤ 4096 := by
    have h1 := takeA_len HFEW.out ts.length
    rw [List.take_length] at h1
    exact Nat.le_trans (filt_le _ _) h1
   have HSO := hid (rl_sort (goodL ts p q) (w.heap.size + 1) _ wA HO2.out (by omega) (by omega))
   clear HO1 hgl
   go_wp2_with fail
   with_reducible refine HSO.out.mono ?_
   rintro e w8 ⟨rfl, rs', hp, hsd, hown, hb8⟩
   have HRES : Hid (BuildRP w ts p q (.returned (.tuple #[.slice oa (goodL ts p q).length oc, .int .i64 0])) w8) := hid ⟨_, rs', rfl, hp, hsd, own_base hown (by omega), HB1.out.trans (hb8.mono (by omega))⟩
   clear hp hsd hown hb8 HSO
   go_wp2
   refine bodyPost_ret (v := .tuple #[.slice oa (goodL ts p q).length oc, .int .i64 0]) (by simp [results, Tryz.results15, go_sem]) rfl HRES.out
end Go.Proofs.YtaajpliifdlokaaGreatDoor
