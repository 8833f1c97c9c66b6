/- Contract of fuzzy.Pairing. -/
import Derived.Test.YtdncdlcfgljheaaGz
import Derived.Test.YtdncdlcfgljheaaGm
import Derived.Deep.Cut
import Derived.Deep.CutRange
import Derived.Deep.DeepCutAuto
namespace Go.Proofs.Ytdncdlcfgljheaa
open Go.RowKit

/-- The pairing has been laid. -/
structure Laid (nq nv : Nat) (E : Nat → List Nat) (w : World) (p : Pl) (wc : World) : Prop where
  apart : p.Apart3
  at_ : PgAt p E wc (fun _ => some 0) (fun _ => false)
  ti : p.ti = 3
  tb : p.tb = 4
  q : p.nq = nq
  v : p.nv = nv
  low : w.heap.size ≤ p.g ∧ w.heap.size ≤ p.o ∧ w.heap.size ≤ p.f
  below : Below w.heap.size w wc

theorem RdNA.alloc {w : World} {A B : Nat} {v : Value} {nq : Nat} {E : Nat → List Nat} (h : RdNA w A B v nq E) (hB : B ≤ w.heap.size) (o : Obj) : RdNA (w.alloc o) A B v nq E :=
  h.keep fun p _ hp => World.cell?_alloc_lt w o p (by omega)
theorem rowIs_made' (w : World) (z : Value) (n : Nat) (t : TypeId) {g : Nat} (hg : g = w.heap.size) : (w.alloc (.cells (madeCells #[z] n) t)).rowIs g t n (fun _ => z) := by
  subst hg; exact World.rowIs_made w z n t
theorem laid_mk {w w4 W : World} {nval : Value} {o f g A nq nv : Nat} {tp : TypeId} {E : Nat → List Nat} (hr : RdNA w4 A w4.heap.size nval nq E) (hW : Below w4.heap.size w4 W) (hg : g = W.heap.size) (hO : W.rowIs o 3 nv (fun _ => .int .i64 0))
    (hF : W.rowIs f 4 nv (fun _ => .bool false)) (ho : o < A ∨ w4.heap.size ≤ o) (hf : f < A ∨ w4.heap.size ≤ f) (hof : o ≠ f) (lo : w.heap.size ≤ o) (lf : w.heap.size ≤ f) (lg : w.heap.size ≤ W.heap.size) (hbl : Below w.heap.size w W) :
    ∃ p : Pl, Value.pointer (some ⟨g, 0, none⟩) = .pointer (some ⟨p.g, 0, none⟩) ∧ Laid nq nv E w p (W.alloc (.cells #[nval, .slice (some ⟨o, 0, none⟩) nv nv, .slice (some ⟨f, 0, none⟩) nv nv] tp)) := by
  subst hg
  have h1 := hO.lt
  have h2 := hF.lt
  have hB := hW.size
  have hN : RdNA W A w4.heap.size nval nq E := hr.keep fun p _ hp => hW.cell hp
  exact ⟨⟨W.heap.size, o, f, 0, A, w4.heap.size, tp, 3, 4, nq, nv, nval⟩, rfl, ⟨.inr hB, ho, hf, by show W.heap.size ≠ o; omega, by show W.heap.size ≠ f; omega, hof⟩,
    ⟨heap_alloc_new W _, hN.alloc hB _, by rw [World.size_alloc]; show w4.heap.size ≤ _; omega, hO.alloc _, hF.alloc _⟩, rfl, rfl, rfl, rfl, ⟨lg, lo, lf⟩, hbl.alloc lg _⟩

theorem PgAt.belowH {p : Pl} {E : Nat → List Nat} {w w' : World} {f : Mt.Of} {F : Nat → Bool} {H : Nat} (h : PgAt p E w f F) (hb : Below H w w') (hg : p.g < H) (ho : p.o < H) (hf : p.f < H) (hB : p.B ≤ H) : PgAt p E w' f F where
  here := (hb.block _ hg).trans h.here
  near := h.near.keep fun q _ hq => hb.cell (by omega)
  low := Nat.le_trans h.low hb.size
  rowO := h.rowO.of_block (hb.block _ ho)
  rowF := h.rowF.of_block (hb.block _ hf)
theorem own_far {w : World} {base : Nat} {e : TypeId} {size n : Nat} {v : Value} {xs : List Value} (h : w.ownsRow base e size v n xs) {p : Addr} (hp : p.block < base) (u : Value) : (w.setCell p u).ownsRow base e size v n xs :=
  own_roll h ((Roll.refl w.heap.size p.block w).setCell rfl u) (Nat.le_refl _) hp
theorem mark_back {F : Nat → Bool} {j : Nat} (h : F j = false) : Mt.mark (Mt.mark F j true) j false = F := by
  funext c
  show (if c = j then false else (if c = j then true else F c)) = F c
  by_cases e : c = j
  · subst e; rw [if_pos rfl, h]
  · rw [if_neg e, if_neg e]

theorem made_ints (n : Nat) (h : n ≤ 1099511627776) (w : World) :
    (Instr.makeSlice 48 (.int .i64 (n : Int)) (.int .i64 (n : Int))).run Try.prog w = .ok (.slice (some ⟨w.heap.size, 0, none⟩) n n) (w.alloc (.cells (madeCells #[.int .i64 0] n) 3)) :=
  run_make_row' (P := Try.prog) 48 3 (.int .i64 0) 8 Try.underlying48 info_int rfl .i64 .i64 n (by omega) (by omega) w

set_option maxRecDepth 100000 in
set_option maxHeartbeats 4000000 in
theorem fuzzy_Pairing (K L N D : Int) (bnd : Bool) (lim : Nat) (sim : ByteArray → ByteArray → Bool) (HRU : Ruled K L N D bnd lim sim) (qv vv : Value) (qs vs : List ByteArray) (B : Nat) (w : World) (hs : Sets w B qv vv qs vs) :
    Calls Try.prog 9 #[.agg #[.int .i64 K, .int .i64 L, .int .i64 N, .int .i64 D], qv, vv] w
      (fun e w' => ∃ ps, Mt.Found (nearS bnd lim sim qs vs) qs.length vs.length ps ∧ GivesPr w ps e w') := by
  obtain ⟨i0, hi, hz0, hz1, hz2⟩ := info_parts info_pair
  have HS := hid hs
  have HNP := hid (fun W (h : Sets W B qv vv qs vs) => fuzzy_near K L N D bnd lim sim HRU qv vv qs vs B W h.q h.v h.low h.sq h.sv (by have := h.nq; omega) (by have := h.nv; omega))
  have HAS := hid (fun W (h : Sets W B qv vv qs vs) => fuzzy_asked K L N D bnd lim sim HRU qv vv qs vs B W h)
  have hnq := hs.nq
  have hnv := hs.nv
  obtain ⟨va, vc, hvv, _, _, _⟩ := hs.v
  have HVV := hid hvv
  generalize nearS bnd lim sim qs vs = S at *
  clear hs HRU hvv
  generalize hn : qs.length = nq at *
  generalize hm : vs.length = nv at *
  have HLN := hid (And.intro hn hm)
  clear hn hm
  have hmk1 := made_ints nv (by omega)
  have hmk2 := made_bools nv (by omega)
  rw [HVV.out]
  rw [HVV.out] at HS HNP HAS
  go_enter Try.func9, Try.ntmps9
  go_wp2_with fail
  have hB0 : Below w.heap.size w (w.alloc (.cells #[.int .i64 K, .int .i64 L, .int .i64 N, .int .i64 D] 29)) := by repeat' (first | (with_reducible exact Below.refl _ _) | (with_reducible assumption) | (with_reducible refine below_drewN ?_) | (with_reducible refine Below.alloc ?_ ?_ _) | (with_reducible refine Below.drew ?_) | (with_reducible refine Below.setCell ?_ ?_ _) | (with_reducible refine Below.trans ?_ (Below.mono (by with_reducible assumption) ?_)) | go_size)
  with_reducible refine (HAS.out _ (HS.out.below hB0)).mono ?_
  rintro e w1 ⟨rfl, hb1⟩
  have m0 := cell_later hb1 (a := ⟨w.heap.size, 0, none⟩) (v := .int .i64 K) (by go_cell)
  have m1 := cell_later hb1 (a := ⟨w.heap.size, 1, none⟩) (v := .int .i64 L) (by go_cell)
  have m2 := cell_later hb1 (a := ⟨w.heap.size, 2, none⟩) (v := .int .i64 N) (by go_cell)
  have m3 := cell_later hb1 (a := ⟨w.heap.size, 3, none⟩) (v := .int .i64 D) (by go_cell)
  have hz1' := hb1.size
  simp at hz1'
  have hB1 : Below w.heap.size w w1 := by repeat' (first | (with_reducible exact Below.refl _ _) | (with_reducible assumption) | (with_reducible refine below_drewN ?_) | (with_reducible refine Below.alloc ?_ ?_ _) | (with_reducible refine Below.drew ?_) | (with_reducible refine Below.setCell ?_ ?_ _) | (with_reducible refine Below.trans ?_ (Below.mono (by with_reducible assumption) ?_)) | go_size)
  have HB1 := hid hB1
  have HNW := hid (fun W (h : Below w1.heap.size w1 W) => HNP.out W (HS.out.below (HB1.out.trans (h.mono HB1.out.size))))
  clear hb1 hB0 hB1
  go_upto_region 3 with fail
  go_cut [7] (fun v wc => ∃ p : Pl, v = .pointer (some ⟨p.g, 0, none⟩) ∧ Laid nq nv (Mt.nearE S nv) w p wc)
  case first =>
    go_region_held3 (fun w' => w'.cell? ⟨w.heap.size, 0, none⟩ = some (.int .i64 K) ∧ w'.cell? ⟨w.heap.size, 1, none⟩ = some (.int .i64 L) ∧ w'.cell? ⟨w.heap.size, 2, none⟩ = some (.int .i64 N) ∧ w'.cell? ⟨w.heap.size, 3, none⟩ = some (.int .i64 D))
        (first | exact ⟨m0, m1, m2, m3⟩ | exact ⟨n0, n1, n2, n3⟩ | go_keep)
        (first
          | (go_at_call 19; go_must (((with_reducible refine (HNW.out _ (by repeat' (first | (with_reducible exact Below.refl _ _) | (with_reducible assumption) | (with_reducible refine below_drewN ?_) | (with_reducible refine Below.alloc ?_ ?_ _) | (with_reducible refine Below.drew ?_) | (with_reducible refine Below.setCell ?_ ?_ _) | (with_reducible refine Below.trans ?_ (Below.mono (by with_reducible assumption) ?_)) | go_size))).mono ?_); rintro e w4 ⟨a4, c4, rfl, hr4, hb4⟩; have hz4 := hb4.size; (try simp at hz4); have n0 := cell_later hb4 (a := ⟨w.heap.size, 0, none⟩) (v := .int .i64 K) (by go_cell); have n1 := cell_later hb4 (a := ⟨w.heap.size, 1, none⟩) (v := .int .i64 L) (by go_cell); have n2 := cell_later hb4 (a := ⟨w.heap.size, 2, none⟩) (v := .int .i64 N) (by go_cell); have n3 := cell_later hb4 (a := ⟨w.heap.size, 3, none⟩) (v := .int .i64 D) (by go_cell)))))
    all_goals
      go_wp2_with fail
      go_meet
      have hB1 := HB1.out
      exact laid_mk hr4 (by repeat' (first | (with_reducible exact Below.refl _ _) | (with_reducible assumption) | (with_reducible refine below_drewN ?_) | (with_reducible refine Below.alloc ?_ ?_ _) | (with_reducible refine Below.drew ?_) | (with_reducible refine Below.setCell ?_ ?_ _) | (with_reducible refine Below.trans ?_ (Below.mono (by with_reducible assumption) ?_)) | go_size)) (by first | rfl | (simp; done)) (by repeat (first | exact rowIs_made' _ _ _ _ (by first | rfl | (simp; done)) | (refine World.rowIs.alloc ?_ _) | (refine World.rowIs.of_block ?_ (hb4.block _ (by first | (simp; done) | (simp; omega)))))) (by repeat (first | exact rowIs_made' _ _ _ _ (by first | rfl | (simp; done)) | (refine World.rowIs.alloc ?_ _) | (refine World.rowIs.of_block ?_ (hb4.block _ (by first | (simp; done) | (simp; omega)))))) (by first | (right; omega) | (left; simp; done) | (left; simp; omega)) (by first | (right; omega) | (left; simp; done) | (left; simp; omega)) (by omega) (by omega) (by omega) (by go_size) (by repeat' (first | (with_reducible exact Below.refl _ _) | (with_reducible assumption) | (with_reducible refine below_drewN ?_) | (with_reducible refine Below.alloc ?_ ?_ _) | (with_reducible refine Below.drew ?_) | (with_reducible refine Below.setCell ?_ ?_ _) | (with_reducible refine Below.trans ?_ (Below.mono (by with_reducible assumption) ?_)) | go_size))
  case rest =>
    obtain ⟨p, rfl, hl⟩ := hcut
    have HL := hid hl
    have HEV : Hid (∀ x c, c ∈ Mt.nearE S nv x → c < p.nv) := hid (fun x c h => by rw [hl.v]; exact (Mt.nearE_mem.1 h).1)
    have hpq := hl.q
    have hpv := hl.v
    have hlts := hl.at_.lts
    have hplow := hl.at_.low
    have hlows := hl.low
    have hz0' := hl.below.size
    clear hl hmk1 hmk2 m0 m1 m2 m3 hz1'
    have HPQ := hid hpq
    have HPV := hid hpv
    have hnq' : p.nq ≤ 1048576 := by omega
    have hnv' : p.nv ≤ 1048576 := by omega
    clear hpq hpv
    have hsz0 : Calls Try.prog 20 #[.pointer (some ⟨p.g, 0, none⟩), .int .i64 0] wc (SizeP p (Mt.nearE S nv) (fun _ => false) 0 wc) :=
      fuzzy_size p (Mt.nearE S nv) (fun _ => false) (fun _ => some 0) 0 wc HL.out.apart HL.out.ti HL.out.tb hnq' hnv' HEV.out HL.out.at_ (Nat.zero_le _)
    have HSZ0 := hid hsz0
    clear hsz0
    go_wp2_with fail
    with_reducible refine HSZ0.out.mono ?_
    rintro e w5 ⟨s0, f5, rfl, hp5, hb5, hs5, hr5⟩
    have HBEST : Hid (Mt.Best (Mt.fixed S nv (fun _ => false)) 0 nq nv s0) := hid (by have := hb5; rw [HPQ.out, HPV.out] at this; exact this)
    have HP5 := hid hp5
    have HBL5 := hid (HL.out.below.trans (hr5.below (by omega) (by omega)))
    have hz5 := hr5.size
    clear hp5 hb5 hr5
    generalize hH : wc.heap.size = H at *
    clear hH
    go_wp2
    go_loopg [8, 9, 10] nq (fun M v i o wr => ∃ (k op : Nat) (F : Nat → Bool) (f : Mt.Of) (out : List (Nat × Nat)), nq - k = M ∧ k ≤ nq ∧ i = .int .i64 k ∧ o = .int .i64 op ∧ op ≤ nv ∧ out.length ≤ k ∧
      Hid (PgAt p (Mt.nearE S nv) wr f F ∧ Mt.Taken S nq nv s0 k op F out ∧ wr.ownsRow H 33 2 v out.length (pcells out) ∧ Below w.heap.size w wr ∧ H ≤ wr.heap.size))
    case atStart => exact ⟨0, s0, fun _ => false, f5, [], by omega, by omega, rfl, rfl, by have := HPV.out; omega, by simp, hid ⟨HP5.out, Mt.Taken.start HBEST.out, World.ownsRow_nil _ _ _ _, HBL5.out, hz5⟩⟩
    case round =>
      clear HP5 HBL5
      obtain ⟨k, op, F, f, out, rfl, hk, rfl, rfl, hop, hol, hst⟩ := hrel
      obtain ⟨hp, htk, hown, hbl, hHz⟩ := hst.out
      obtain ⟨av, cv, rfl⟩ := own_slice hown
      have HTK := hid htk
      have HST := hid hst.out
      have HP := hid hp
      clear htk hown hst
      cases op with
      | zero =>
        have HFIN : Hid (∃ ps, Mt.Found S nq nv ps ∧ GivesPr w ps (.returned (.slice av out.length cv)) wr) := hid
          ⟨out, Mt.Taken.found HBEST.out HTK.out, av, cv, rfl, own_base HST.out.2.2.1 (by omega), HST.out.2.2.2.1⟩
        generalize out.length = ol at *
        clear hp hbl
        go_wp2
        go_ret
        exact HFIN.out
      | succ op =>
        have hkq : k < nq := HTK.out.best.low (by omega)
        have hgn := hp.near_
        have hgf := hp.fixed_
        obtain ⟨fn, ⟨⟨na, nc, hnv_, hnc, hncm, hnx⟩, _⟩, hin0⟩ := hp.near
        rw [hnv_] at hgn
        obtain ⟨b, o, rfl, hb, hcell⟩ := hnx (by have := HPQ.out; omega)
        have h0 := hcell k (by have := HPQ.out; omega)
        obtain ⟨⟨a4, c4, hfk, hc4, hm4, hx4⟩, hab⟩ := hin0 k (by have := HPQ.out; omega)
        have hx4' : 0 < (Mt.nearE S nv k).length → ∃ b4 o4, a4 = some ⟨b4, o4, none⟩ ∧ b4 < p.B ∧ (∀ q, q < (Mt.nearE S nv k).length → wr.cell? ⟨b4, o4 + q, none⟩ = some (natF (Mt.nearE S nv k) q)) ∧ p.A ≤ b4 := fun hp => by
          obtain ⟨b4, o4, e4, h1, h2⟩ := hx4 hp
          exact ⟨b4, o4, e4, h1, h2, hab ⟨b4, o4, none⟩ _ _ (by rw [hfk, e4]) hp⟩
        rw [hfk] at h0
        have hkq' : k < p.nq := by have := HPQ.out; omega
        have HEM : Hid (∀ j, j ∈ Mt.nearE S nv k → j < p.nv) := hid (HEV.out k)
        have HBL := hid hbl
        unfold maxLen at hm4 hncm
        clear hp hcell hnx hin0 hx4 hfk hnv_ hbl hab
        have HX4 := hid hx4'
        clear hx4'
        generalize hl : Mt.nearE S nv k = l at *
        have HLK := hid hl
        clear hl
        go_wp2
        generalize hwk : wr = wk at *
        clear hwk
        go_loopg [8, 10, 44] l.length (fun M v8 v10 c wr => ∃ (q : Nat) (f : Mt.Of), l.length - q = M ∧ q ≤ l.length ∧ v8 = .slice av out.length cv ∧ v10 = .int .i64 ((op + 1 : Nat) : Int) ∧ c = .int .i64 q ∧
          Hid (PgAt p (Mt.nearE S nv) wr f F ∧ wr.ownsRow H 33 2 (.slice av out.length cv) out.length (pcells out) ∧ Below w.heap.size w wr ∧ H ≤ wr.heap.size ∧ (∀ b, b < H → b ≠ p.o → b ≠ p.f → wr.heap[b]? = wk.heap[b]?) ∧
            ∀ j, j ∈ l.take q → F j = false → ¬ Mt.Best (Mt.fixed S nv (Mt.mark F j true)) (k + 1) nq nv op))
        case atStart => exact ⟨0, f, by omega, by omega, rfl, by go_num, rfl, hid ⟨HP.out, HST.out.2.2.1, HBL.out, hHz, fun _ _ _ _ => rfl, fun j h => by simp at h⟩⟩
        case round =>
          clear HP HST h0 hgn hgf hHz
          obtain ⟨q, f, rfl, hq, rfl, rfl, rfl, hst⟩ := hrel
          obtain ⟨hp, hown, hbl, hHz, hkeep, hno⟩ := hst.out
          have HP := hid hp
          have HOWN := hid hown
          have HBL := hid hbl
          have HKEEP := hid hkeep
          have HNO := hid hno
          have hgf := hp.fixed_
          clear hp hown hbl hkeep hno hst
          by_cases hql : q < l.length
          · obtain ⟨b4, o4, rfl, hb4, hcell4, hab4⟩ := HX4.out (by omega)
            have h4 : wr.cell? ⟨b4, o4 + q, none⟩ = some (.int .i64 ((l.getD q 0 : Nat) : Int)) := (World.cell?_of_block (w := wk) (HKEEP.out b4 (by omega) (by have := HL.out.apart.o; omega) (by have := HL.out.apart.f; omega))).trans (hcell4 q hql)
            have hjv : l.getD q 0 < p.nv := HEM.out _ (by simp [List.getD, hql])
            have HMEM : Hid (l.getD q 0 ∈ Mt.nearE S nv k) := hid (by rw [HLK.out]; simp [List.getD, hql])
            have HNX := hid (fun (h : F (l.getD q 0) = false → ¬ Mt.Best (Mt.fixed S nv (Mt.mark F (l.getD q 0) true)) (k + 1) nq nv op) (j : Nat) (hj : j ∈ l.take (q + 1)) => (show F j = false → ¬ Mt.Best (Mt.fixed S nv (Mt.mark F j true)) (k + 1) nq nv op from by
              rcases Mt.take_mem_succ hql hj with h1 | h1
              · exact HNO.out j h1
              · rw [h1]; exact h))
            have HLQ : Hid ((Mt.nearE S nv k).getD q 0 = l.getD q 0) := hid (by rw [HLK.out])
            have HLL : Hid (q < (Mt.nearE S nv k).length) := hid (by rw [HLK.out]; exact hql)
            have HNQ : Hid (∀ j, j ∈ (Mt.nearE S nv k).take q → F j = false → ¬ Mt.Best (Mt.fixed S nv (Mt.mark F j true)) (k + 1) nq nv op) := hid (by rw [HLK.out]; exact HNO.out)
            clear hcell4 HNO
            generalize l.getD q 0 = j at *
            have hfj : wr.cell? ⟨p.f, j, none⟩ = some (.bool (F j)) := HP.out.rowF.cell hjv
            generalize hln : l.length = ln at *
            clear hln
            cases hFj : F j with
            | true =>
              rw [hFj] at hfj
              have HFJ := hid hFj
              clear hFj
              go_wp2
              go_roundg (ln - (q + 1))
              case rel => exact ⟨q + 1, f, by omega, by omega, rfl, by go_num, by go_num, hid ⟨HP.out, HOWN.out, HBL.out, hHz, HKEEP.out, HNX.out (fun h => by rw [HFJ.out] at h; cases h)⟩⟩
              case measure => omega
            | false =>
              rw [hFj] at hfj
              have HFJ := hid hFj
              clear hFj
              have hff := HP.out.rowF.frozen j
              have HPF := hid (HP.out.setF3 HL.out.apart j true)
              have HOW1 := hid (own_far HOWN.out (p := ⟨p.f, j, none⟩) (by show p.f < H; omega) (.bool true))
              have HBL1 := hid (HBL.out.setCell (p := ⟨p.f, j, none⟩) (by show w.heap.size ≤ p.f; omega) (.bool true))
              have HKP1 : Hid (∀ b, b < H → b ≠ p.o → b ≠ p.f → (wr.setCell ⟨p.f, j, none⟩ (.bool true)).heap[b]? = wk.heap[b]?) := hid (fun b h1 h2 h3 => (Below.heap_setCell _ _ _ _ h3).trans (HKEEP.out b h1 h2 h3))
              have hsz1 : (wr.setCell ⟨p.f, j, none⟩ (.bool true)).heap.size = wr.heap.size := World.size_setCell _ _ _
              have HSZ1 := hid hsz1
              clear hsz1
              go_wp2_with fail
              clear hfj hff h4 hgf
              generalize wr.setCell ⟨p.f, j, none⟩ (.bool true) = W1 at *
              have hsz : Calls Try.prog 20 #[.pointer (some ⟨p.g, 0, none⟩), .int .i64 ((k : Int) + 1)] W1 (SizeP p (Mt.nearE S nv) (Mt.mark F j true) (k + 1) W1) := by
                have h := fuzzy_size p (Mt.nearE S nv) (Mt.mark F j true) f (k + 1) W1 HL.out.apart HL.out.ti HL.out.tb hnq' hnv' HEV.out HPF.out (by omega)
                rw [show (((k + 1 : Nat) : Int)) = (k : Int) + 1 from by omega] at h
                exact h
              with_reducible refine hsz.mono ?_
              clear hsz
              rintro e w5 ⟨s, f5, rfl, hp5, hb5, hs5, hr5⟩
              have HP5 := hid hp5
              have HB5 : Hid (Mt.Best (Mt.fixed S nv (Mt.mark F j true)) (k + 1) nq nv s) := hid (by have := hb5; rw [HPQ.out, HPV.out] at this; exact this)
              have hW1z : H ≤ W1.heap.size := by have := HSZ1.out; omega
              have HOW5 := hid (own_roll HOW1.out hr5 (Nat.le_refl _) (by omega))
              have HBL5 := hid (HBL1.out.trans (hr5.below (by omega) (by omega)))
              have HKP5 : Hid (∀ b, b < H → b ≠ p.o → b ≠ p.f → w5.heap[b]? = wk.heap[b]?) := hid (fun b h1 h2 h3 => (hr5.block b (by omega) h2).trans (HKP1.out b h1 h2 h3))
              have hz5' := hr5.size
              clear hp5 hb5 hr5
              by_cases hso : s = op
              · have heq : ((s : Int) == (op : Int)) = true := by simp [hso]
                have HSO := hid hso
                clear hso
                go_wp2_with (at_builtin; refine wpList_append_own _ rfl _ _ 31 rfl H 33 i0 (.agg #[.int .i64 0, .int .i64 0]) 2 16 Try.underlying31 hi hz0 hz1 hz2 rfl (by decide) _ _ _ rfl (HOW5.out.alloc _) ⟨_, 0, none⟩ 1 1 [.int .i64 (k : Int), .int .i64 (j : Int)] rfl rfl (cell_two_new _ _ _ _) (by intro u hu; simp at hu; rcases hu with rfl | rfl <;> rfl) (by unfold maxLen; omega) (by omega) (by simp; omega) ?_)
                intro v' w6 hown6 hgrow _
                have HB6 := hid ((HBL5.out.alloc (by omega) (.cells #[.int .i64 (k : Int), .int .i64 (j : Int)] 33)).grown hgrow (by simp; omega) (fun b hb => by have := (HOW5.out.lt b hb).1; omega))
                have hbH : Below H w5 w6 := push_below (Below.refl _ _) (by omega) HOW5.out hgrow
                have HP6 := hid (HP5.out.belowH hbH (by omega) (by omega) (by omega) (by omega))
                have hz6 := hbH.size
                rw [pcells_snoc] at hown6
                have HO6 := hid hown6
                have HTK6 : Hid (Mt.Taken S nq nv s0 (k + 1) op (Mt.mark F j true) (out ++ [(k, j)])) := hid (HTK.out.take HMEM.out HFJ.out HLL.out HLQ.out HNQ.out (by have := HB5.out; rw [HSO.out] at this; exact this))
                clear hown6 hgrow hbH
                go_wp2
                go_roundg (nq - (k + 1))
                case rel => exact ⟨k + 1, op, Mt.mark F j true, f5, out ++ [(k, j)], by omega, by omega, by go_num, by go_num, by omega, by simp; omega, hid ⟨HP6.out, HTK6.out, by simpa using HO6.out, HB6.out, by omega⟩⟩
                case measure => omega
              · have heq : ((s : Int) == (op : Int)) = false := by simp; omega
                have HSO := hid hso
                have hgf := HP5.out.fixed_
                have hfj := HP5.out.rowF.cell hjv
                have hff := HP5.out.rowF.frozen j
                have HP7 := hid (HP5.out.setF3 HL.out.apart j false)
                rw [mark_back HFJ.out] at HP7
                have HOW7 := hid (own_far HOW5.out (p := ⟨p.f, j, none⟩) (by show p.f < H; omega) (.bool false))
                have HBL7 := hid (HBL5.out.setCell (p := ⟨p.f, j, none⟩) (by show w.heap.size ≤ p.f; omega) (.bool false))
                have HKP7 : Hid (∀ b, b < H → b ≠ p.o → b ≠ p.f → (w5.setCell ⟨p.f, j, none⟩ (.bool false)).heap[b]? = wk.heap[b]?) := hid (fun b h1 h2 h3 => (Below.heap_setCell _ _ _ _ h3).trans (HKP5.out b h1 h2 h3))
                have HZ7 : Hid (H ≤ (w5.setCell ⟨p.f, j, none⟩ (.bool false)).heap.size) := hid (by rw [World.size_setCell]; omega)
                clear hso
                go_wp2_with fail
                go_roundg (ln - (q + 1))
                case rel => exact ⟨q + 1, f5, by omega, by omega, rfl, by go_num, by go_num, hid ⟨HP7.out, HOW7.out, HBL7.out, HZ7.out, HKP7.out, HNX.out (fun _ hB => HSO.out (hB.same HB5.out).symm)⟩⟩
                case measure => omega
          · obtain rfl : q = l.length := by omega
            have HTK2 : Hid (Mt.Taken S nq nv s0 (k + 1) (op + 1) F out) := hid (HTK.out.leave (fun j hj hF => HNO.out j (by rw [List.take_length, ← HLK.out]; exact hj) hF))
            clear hgf
            go_wp2
            go_roundg (nq - (k + 1))
            case rel => exact ⟨k + 1, op + 1, F, f, out, by omega, by omega, by go_num, by go_num, by omega, by omega, hid ⟨HP.out, HTK2.out, HOWN.out, HBL.out, hHz⟩⟩
            case measure => omega

end Go.Proofs.Ytdncdlcfgljheaa
