/- Contracts of package fraction's words: isNaN, Compare, compare, trimmed, ValidBig, natural. 'append(dst, src...)' onto a row that the call owns, from a slice of whatever shape and named type. No program in sight. Contracts of package fraction: signed, compare, Div32, short. Digits that a slot holds, wherever they lie. No program in sight. -/
import Derived.Test.YthblaeleogdfpaaGreatDoorCToaj
import Derived.WalkKit
set_option linter.unusedVariables false
set_option linter.unusedSimpArgs false
namespace Go.Proofs.YthblaeleogdfpaaGreatDoor.Fr
open Go.RowKit
set_option maxHeartbeats 400000 in
theorem frac_trimmed (u : Value) (xs : List Nat) (w : World) (hx : Rd32 w u xs) :
  Calls Tryz.prog 241 #[u] w (QuietDig w u xs) := by
 obtain ⟨a, c, rfl, hc, hm, hxr, hxc⟩ := hx
 have HT := hid (take_trimK hxr)
 have HL := hid (trimK_length hxr)
 have HR : Hid (∀ W, Rd32 W (.slice a xs.length c) xs → ∀ k, k ≤ xs.length → Rd32 W (.slice a k c) (xs.take k)) := fun W h k hk => h.take k hk
 clear hxr
 generalize hV : val xs = V at *
 obtain ⟨n, hn⟩ : ∃ n, n = xs.length := ⟨_, rfl⟩
 rw [← hn] at hc hxc HR HT HL
 have HN := hid hn
 have HVV := hid hV
 rw [show Value.slice a xs.length c = Value.slice a n c from by rw [hn]]
 clear hn hV
 unfold maxLen at hm
 go_enter Tryz.func241, Tryz.ntmps241
 go_wp2
 go_loopw [0] (fun v w' => ∃ k : Nat, k ≤ n ∧ v = .slice a k c ∧ trimK xs n = trimK xs k ∧ w' = w) (fun v _ => slen v)
 case atStart => exact ⟨n, Nat.le_refl _, rfl, rfl, rfl⟩
 case round =>
  obtain ⟨k, hk, rfl, hf, rfl⟩ := hrel
  have HC := hid hf
  clear hf
  rcases k with _ | k
  ·go_wp2
   go_ret
   have e0 : (dig (val xs)).length = 0 := by rw [HVV.out, ← HL.out, HC.out]; rfl
   exact ⟨_, _, by rw [e0]; rfl, fun W hW => by have := HR.out W hW 0 (by omega); rw [e0, HVV.out, ← HT.out, HC.out]; exact this, fun R h => by rw [e0]; exact h.take (by omega), 0, rfl⟩
  ·obtain ⟨b, o, rfl, hb, hcell⟩ := hxc (by omega)
   have h1 := hcell k (by omega)
   have hF := HC.out
   rw [trimK] at hF
   generalize hX : xs.getD k 0 = x at *
   have HF3 := hid hF
   clear hcell hF HC hxc hX
   have e1 : ((k + 1 : Nat) : Int) - 1 = (k : Int) := by omega
   by_cases hz : x = 0
   ·go_wp2
    go_roundw
    case rel => exact ⟨k, by omega, rfl, by rw [HF3.out, if_pos hz], by trivial⟩
    case measure => simp [slen]
   ·go_wp2
    go_ret
    have e0 : (dig (val xs)).length = k + 1 := by rw [HVV.out, ← HL.out, HF3.out, if_neg hz]
    exact ⟨_, _, by rw [e0]; rfl, fun W hW => by have := HR.out W hW (k + 1) (by omega); rw [e0, HVV.out, ← HT.out, HF3.out, if_neg hz]; exact this, fun R h => by rw [e0]; exact h.take (by omega), 0, rfl⟩
set_option maxRecDepth 100000 in
set_option maxHeartbeats 400000 in
theorem frac_ValidBig (v : Value) (neg : Bool) (xs : List Nat) (w : World) (hx : RdB w v neg xs) :
  Calls Tryz.prog 236 #[v] w (Ret w (.bool (okBig neg xs))) := by
 obtain ⟨a, c, rfl, hx⟩ := hx
 obtain ⟨a', c', e, hc, hm, hxr, hxc⟩ := hx
 obtain ⟨rfl, _, rfl⟩ := Value.slice.inj e
 clear e
 obtain ⟨n, hn⟩ : ∃ n, n = xs.length := ⟨_, rfl⟩
 have HF : Hid (okBig neg xs = decide (n ≤ 256 ∧ (n = 0 ∧ neg = false ∨ 0 < n ∧ xs.getD (n - 1) 0 ≠ 0))) := by simp [Hid, okBig, hn]
 generalize okBig neg xs = F at *
 rw [← hn] at hc hxc ⊢
 clear hn hxr
 unfold maxLen at hm
 rcases n with _ | n
 ·cases neg
  ·go_enter Tryz.func236, Tryz.ntmps236
   go_wp2
   go_ret
   exact ⟨ret_bool (by rw [HF.out]; simp), by repeat' (first | (with_reducible exact Below.refl _ _) | (with_reducible assumption) | (with_reducible refine below_drewN ?_) | (with_reducible refine Below.alloc ?_ ?_ _) | (with_reducible refine Below.drew ?_) | (with_reducible refine Below.setCell ?_ ?_ _) | (with_reducible refine Below.trans ?_ (Below.mono (by with_reducible assumption) ?_)) | go_size)⟩
  ·go_enter Tryz.func236, Tryz.ntmps236
   go_wp2
   go_ret
   exact ⟨ret_bool (by rw [HF.out]; simp), by repeat' (first | (with_reducible exact Below.refl _ _) | (with_reducible assumption) | (with_reducible refine below_drewN ?_) | (with_reducible refine Below.alloc ?_ ?_ _) | (with_reducible refine Below.drew ?_) | (with_reducible refine Below.setCell ?_ ?_ _) | (with_reducible refine Below.trans ?_ (Below.mono (by with_reducible assumption) ?_)) | go_size)⟩
 ·obtain ⟨b, o, rfl, hb, hcell⟩ := hxc (by omega)
  have h1 := hcell n (by omega)
  have HF2 := HF.out
  rw [show n + 1 - 1 = n from rfl] at HF2
  generalize xs.getD n 0 = x at *
  have HF3 := hid HF2
  clear HF2 HF hxc hcell
  have e1 : ((n + 1 : Nat) : Int) - 1 = (n : Int) := by omega
  by_cases hle : n + 1 ≤ 256
  ·have hne : (((n + 1 : Nat) : Int) == 0) = false := by simp; omega
   by_cases hz : x = 0
   ·subst hz
    go_enter Tryz.func236, Tryz.ntmps236
    go_wp2
    go_ret
    exact ⟨ret_bool (by rw [HF3.out]; simp), by repeat' (first | (with_reducible exact Below.refl _ _) | (with_reducible assumption) | (with_reducible refine below_drewN ?_) | (with_reducible refine Below.alloc ?_ ?_ _) | (with_reducible refine Below.drew ?_) | (with_reducible refine Below.setCell ?_ ?_ _) | (with_reducible refine Below.trans ?_ (Below.mono (by with_reducible assumption) ?_)) | go_size)⟩
   ·have hne2 : (((x : Nat) : Int) != 0) = true := by simp; omega
    have HZ := hid hz
    clear hz
    go_enter Tryz.func236, Tryz.ntmps236
    go_wp2
    go_ret
    exact ⟨ret_bool (by rw [HF3.out]; have := HZ.out; simp; omega), by repeat' (first | (with_reducible exact Below.refl _ _) | (with_reducible assumption) | (with_reducible refine below_drewN ?_) | (with_reducible refine Below.alloc ?_ ?_ _) | (with_reducible refine Below.drew ?_) | (with_reducible refine Below.setCell ?_ ?_ _) | (with_reducible refine Below.trans ?_ (Below.mono (by with_reducible assumption) ?_)) | go_size)⟩
  ·go_enter Tryz.func236, Tryz.ntmps236
   go_wp2
   go_ret
   exact ⟨ret_bool (by rw [HF3.out]; simp; omega), by repeat' (first | (with_reducible exact Below.refl _ _) | (with_reducible assumption) | (with_reducible refine below_drewN ?_) | (with_reducible refine Below.alloc ?_ ?_ _) | (with_reducible refine Below.drew ?_) | (with_reducible refine Below.setCell ?_ ?_ _) | (with_reducible refine Below.trans ?_ (Below.mono (by with_reducible assumption) ?_)) | go_size)⟩
set_option maxHeartbeats 400000 in
theorem isNaN_int (n : Int) (w : World) : Calls Tryz.prog 197 #[.int .i64 n] w (fun e w' => e = .returned (.bool false) ∧ w = w') := by
 go_enter Tryz.func197, Tryz.ntmps197
 go_wp2
 go_ret
 exact ⟨ret_bool (by simp), rfl⟩
set_option maxHeartbeats 400000 in
theorem isNaN_u32 (n : Int) (w : World) : Calls Tryz.prog 279 #[.int .u32 n] w (fun e w' => e = .returned (.bool false) ∧ w = w') := by
 go_enter Tryz.func279, Tryz.ntmps279
 go_wp2
 go_ret
 exact ⟨ret_bool (by simp), rfl⟩
def isgn (a b : Int) : Int := if a < b then -1 else if b < a then 1 else 0
theorem isgn_lt {a b : Int} (h : a < b) : isgn a b = -1 := by unfold isgn; rw [if_pos h]
theorem isgn_gt {a b : Int} (h : b < a) : isgn a b = 1 := by unfold isgn; rw [if_neg (by omega), if_pos h]
theorem isgn_eq {a b : Int} (h : a = b) : isgn a b = 0 := by unfold isgn; rw [if_neg (by omega), if_neg (by omega)]
theorem isgn_nat (a b : Nat) : isgn (a : Int) (b : Int) = sgn a b := by
 unfold isgn sgn
 by_cases h : a < b
 ·rw [if_pos h, if_pos (by omega)]
 ·rw [if_neg h, if_neg (by omega)]
  by_cases h2 : b < a
  ·rw [if_pos h2, if_pos (by omega)]
  ·rw [if_neg h2, if_neg (by omega)]
set_option maxHeartbeats 400000 in
theorem Compare_int (a b : Int) (w : World) : Calls Tryz.prog 139 #[.int .i64 a, .int .i64 b] w (fun e w' => e = .returned (.int .i64 (isgn a b)) ∧ w = w') := by
 by_cases h : a < b
 ·go_enter Tryz.func139, Tryz.ntmps139
  go_wp2_with (first | (go_at_call 197; refine (isNaN_int _ _).mono ?_; rintro e w' ⟨rfl, rfl⟩))
  go_ret
  exact ⟨ret_int (isgn_lt (by omega)).symm, rfl⟩
 ·by_cases h2 : b < a
  ·go_enter Tryz.func139, Tryz.ntmps139
   go_wp2_with (first | (go_at_call 197; refine (isNaN_int _ _).mono ?_; rintro e w' ⟨rfl, rfl⟩))
   go_ret
   exact ⟨ret_int (isgn_gt (by omega)).symm, rfl⟩
  ·go_enter Tryz.func139, Tryz.ntmps139
   go_wp2_with (first | (go_at_call 197; refine (isNaN_int _ _).mono ?_; rintro e w' ⟨rfl, rfl⟩))
   go_ret
   exact ⟨ret_int (isgn_eq (by omega)).symm, rfl⟩
set_option maxHeartbeats 400000 in
theorem Compare_u32 (a b : Int) (w : World) : Calls Tryz.prog 238 #[.int .u32 a, .int .u32 b] w (fun e w' => e = .returned (.int .i64 (isgn a b)) ∧ w = w') := by
 by_cases h : a < b
 ·go_enter Tryz.func238, Tryz.ntmps238
  go_wp2_with (first | (go_at_call 279; refine (isNaN_u32 _ _).mono ?_; rintro e w' ⟨rfl, rfl⟩))
  go_ret
  exact ⟨ret_int (isgn_lt (by omega)).symm, rfl⟩
 ·by_cases h2 : b < a
  ·go_enter Tryz.func238, Tryz.ntmps238
   go_wp2_with (first | (go_at_call 279; refine (isNaN_u32 _ _).mono ?_; rintro e w' ⟨rfl, rfl⟩))
   go_ret
   exact ⟨ret_int (isgn_gt (by omega)).symm, rfl⟩
  ·go_enter Tryz.func238, Tryz.ntmps238
   go_wp2_with (first | (go_at_call 279; refine (isNaN_u32 _ _).mono ?_; rintro e w' ⟨rfl, rfl⟩))
   go_ret
   exact ⟨ret_int (isgn_eq (by omega)).symm, rfl⟩
set_option maxHeartbeats 400000 in
theorem frac_natural (n : Nat) (w : World) (h : n < 18446744073709551616) :
  Calls Tryz.prog 208 #[.int .u64 (n : Int)] w (GivesD w n) := by
 go_enter Tryz.func208, Tryz.ntmps208
 go_wp2_with fail
 rw [show ((n : Int) / 4294967296) = ((n / 4294967296 : Nat) : Int) from by omega, show ((n : Int) % 4294967296) = ((n % 4294967296 : Nat) : Int) from by omega]
 have hr := Rd32.new2 w (n % 4294967296) (n / 4294967296) 157 w.heap.size rfl (by omega) (by omega)
 with_reducible refine (frac_trimmed _ _ _ hr).mono ?_
 rintro e w1 ⟨a, c, rfl, hv, ho, k, rfl⟩
 rw [val_two' n] at hv ho
 rw [val_two' n]
 have HV := hid (hv _ hr)
 have HO := hid ho
 clear hv ho hr
 go_wp2
 go_ret
 exact ⟨_, _, rfl, HV.out, fun R hR => HO.out R (Off.of_lt hR), by repeat' (first | (with_reducible exact Below.refl _ _) | (with_reducible assumption) | (with_reducible refine below_drewN ?_) | (with_reducible refine Below.alloc ?_ ?_ _) | (with_reducible refine Below.drew ?_) | (with_reducible refine Below.setCell ?_ ?_ _) | (with_reducible refine Below.trans ?_ (Below.mono (by with_reducible assumption) ?_)) | go_size)⟩
end Go.Proofs.YthblaeleogdfpaaGreatDoor.Fr

namespace Go.Proofs.YthblaeleogdfpaaGreatDoor.Fr
open Go.RowKit
section
variable {P : Program} (w : World)
theorem append_types {t tx ty e e' : TypeId} (ht : P.underlying t = some (.slice e)) (hk : P.underlying tx = some (.slice e')) (s x : Value) :
  (Builtin.append_ #[t, tx] ty #[s, x]).run P w = (Builtin.append_ #[t, t] ty #[s, x]).run P w := by
 cases s <;> simp [Builtin.append_, run_underlying ht, run_underlying hk]
theorem run_append_empty {t ty e : TypeId} {i : TypeInfo} (ht : P.underlying t = some (.slice e)) (hi : P.info? e = some i) (base : Option Addr) (n cap c : Nat) (hn : n ≤ cap) (ao : Option Addr) :
  (Builtin.append_ #[t, t] ty #[.slice base n cap, .slice ao 0 c]).run P w = .ok (.slice base n cap) w := by
 cases ao <;> cases base <;> simp [Builtin.append_, run_underlying ht, sizeOf, typeInfo, hi, Builtin.lenOf, Builtin.firstCells, loadCells, loadCellsFrom, storeCells, hn]
theorem run_append_any (base : Nat) (t tx ty e e' : TypeId) (i : TypeInfo) (z : Value) (size bytes : Nat) (ht : P.underlying t = some (.slice e)) (hk : P.underlying tx = some (.slice e')) (hi : P.info? e = some i) (hz : i.zero = some z)
  (hsize : i.size = size) (hby : i.bytes = bytes) (hzs : z.cells.size = size) (hsz : 0 < size)
  (v : Value) (n : Nat) (xs : List Value) (hown : w.ownsRow base e size v n xs)
  (ao : Option Addr) (m c : Nat) (news : List Value) (hl : news.length = m * size) (hnews : 0 < m → ∃ ad, ao = some ad ∧ ∀ j u, news[j]? = some u → w.cell? (ad.add j) = some u) (h1 : ∀ u ∈ news, u.oneCell' = true)
  (h63 : n + m ≤ maxLen) (hbytes : (n + m) * bytes ≤ 140737488355328) (hbase : base ≤ w.heap.size) :
  ∃ v' w', (Builtin.append_ #[t, tx] ty #[v, .slice ao m c]).run P w = .ok v' w' ∧ w'.ownsRow base e size v' (n + m) (xs ++ news) ∧ w.grownBy w' v.ownBlock ∧
   (v' = .slice none 0 0 ↔ v = .slice none 0 0 ∧ m = 0) := by
 rw [append_types w ht hk]
 by_cases hm : m = 0
 ·subst hm
  have hn : news = [] := List.eq_nil_of_length_eq_zero (by simpa using hl)
  subst hn
  refine ⟨v, w, ?_, by simpa using hown, ⟨rfl, rfl, rfl, Nat.le_refl _, fun _ _ _ => rfl⟩, by simp⟩
  rcases hown.2 with ⟨rfl, rfl⟩ | ⟨g, cap, cur, rfl, hbg, hg, hnc, hcm, hcs, htake⟩
  ·exact run_append_empty w ht hi none 0 0 c (Nat.le_refl _) ao
  ·exact run_append_empty w ht hi _ n cap c hnc ao
 ·obtain ⟨ad, rfl, hc⟩ := hnews (by omega)
  exact run_append_own w base t ty e i z size bytes ht hi hz hsize hby hzs hsz v n xs hown ad m c news hl hc h1 h63 hbytes hbase
theorem wpList_append_any {ops : Array Oper} {rest : List Oper} {o : Oper} {a : Act} {Q : Exit → Act → World → Prop} (hgd : o.guard = none) (s x : Operand) (t tx : TypeId)
  (ho : o.op = .call { callee := .builtin .append, args := #[s, x], argTypes := #[t, tx] })
  (base : Nat) (e e' : TypeId) (i : TypeInfo) (z : Value) (size bytes : Nat) (ht : P.underlying t = some (.slice e)) (hk : P.underlying tx = some (.slice e')) (hi : P.info? e = some i) (hz : i.zero = some z)
  (hsize : i.size = size) (hby : i.bytes = bytes) (hzs : z.cells.size = size) (hsz : 0 < size)
  (v : Value) (n : Nat) (xs : List Value) (hs : a.eval s = v) (hown : w.ownsRow base e size v n xs)
  (ao : Option Addr) (m c : Nat) (news : List Value) (hx : a.eval x = .slice ao m c) (hl : news.length = m * size) (hnews : 0 < m → ∃ ad, ao = some ad ∧ ∀ j u, news[j]? = some u → w.cell? (ad.add j) = some u) (h1 : ∀ u ∈ news, u.oneCell' = true)
  (h63 : n + m ≤ maxLen) (hbytes : (n + m) * bytes ≤ 140737488355328) (hbase : base ≤ w.heap.size)
  (h : ∀ v' w', w'.ownsRow base e size v' (n + m) (xs ++ news) → w.grownBy w' v.ownBlock → (v' = .slice none 0 0 ↔ v = .slice none 0 0 ∧ m = 0) → wpList P ops Q rest (a.put o.dst v') w') : wpList P ops Q (o :: rest) a w :=
 wpList_plain hgd fun K hK => by
  obtain ⟨v', w', hr, h2, h3, h4⟩ := run_append_any (P := P) w base t tx o.type e e' i z size bytes ht hk hi hz hsize hby hzs hsz v n xs hown ao m c news hl hnews h1 h63 hbytes hbase
  unfold Oper.wp execOp
  simp only [ho, resolve, invoke, builtin, Sem.run_bind, Sem.run_pure, Result.andThen_ok, List.map_toArray, List.map_cons, List.map_nil, hs, hx, hr]
  exact hK _ _ (h v' w' h2 h3 h4)
end
end Go.Proofs.YthblaeleogdfpaaGreatDoor.Fr

namespace Go.Proofs.YthblaeleogdfpaaGreatDoor.Fr
open Go.RowKit
theorem Rd32.src {w : World} {a : Option Addr} {n c : Nat} {xs : List Nat} (h : Rd32 w (.slice a n c) xs) :
  (xs.map U32).length = n * 1 ∧ (0 < n → ∃ ad, a = some ad ∧ ∀ j u, (xs.map U32)[j]? = some u → w.cell? (ad.add j) = some u) := by
 obtain ⟨a', c', e, h1, h2, h3, h4⟩ := h
 obtain ⟨rfl, rfl, rfl⟩ := Value.slice.inj e
 refine ⟨by simp, fun hn => ?_⟩
 obtain ⟨b, o, rfl, h5, h6⟩ := h4 hn
 exact ⟨_, rfl, Rd32.news (n := 0) (c := 0) h6⟩
set_option maxHeartbeats 1000000 in
theorem frac_signed (neg : Bool) (u : Value) (n : Nat) (w : World) (hx : Rd32 w u (dig n)) (hl : (dig n).length ≤ 1073741824) :
  Calls Tryz.prog 180 #[.bool neg, u] w (GivesZ [] w neg n) := by
 obtain ⟨i0, hi, hz0, hz1, hz2⟩ := info_parts info_u32
 have hx' := hx
 obtain ⟨a, c, rfl, _⟩ := hx
 have HX := hid hx'
 have hsrc := (hx'.alloc (o := .cells #[.bool false, .slice none 0 0] 47)).src
 have HS := hid hsrc
 have HP := hid (@dig_length_pos n)
 have HD := hid (digs_dig n)
 clear hsrc hx'
 generalize hL : (dig n).length = L at *
 have HLL := hid hL
 clear hL
 by_cases hn : 0 < L
 all_goals
  cases neg
  all_goals
   go_enter Tryz.func180, Tryz.ntmps180
   go_wp2_with (at_builtin; refine wpList_append_any _ rfl _ _ 45 210 rfl (w.heap.size + 1) 157 157 i0 (.int .u32 0) 1 4 Tryz.underlying45 Tryz.underlying210 hi hz0 hz1 hz2 rfl (by decide) (.slice none 0 0) 0 [] rfl (World.ownsRow_nil _ _ _ _) a L c ((dig n).map U32) rfl HS.out.1 HS.out.2 (u32_one _) (by unfold maxLen; omega) (by omega) (by go_size) ?_)
   intro v' w1 hown hgrow _
   obtain ⟨hr1, hr2, _, a2, c2, rfl⟩ := rd_of_owns hown HD.out
   have q0 : w1.cell? ⟨w.heap.size, 0, none⟩ = some (.bool false) := hgrow.cell (by simp) (by simp [Value.ownBlock])
   have q1 : w1.cell? ⟨w.heap.size, 1, none⟩ = some (.slice none 0 0) := hgrow.cell (by simp) (by simp [Value.ownBlock])
   have f0 : w1.frozen? ⟨w.heap.size, 0, none⟩ = false := (World.frozen?_of_block (hgrow.block w.heap.size (by simp) (by simp [Value.ownBlock]))).trans (by simp)
   have f1 : w1.frozen? ⟨w.heap.size, 1, none⟩ = false := (World.frozen?_of_block (hgrow.block w.heap.size (by simp) (by simp [Value.ownBlock]))).trans (by simp)
   have hbl : Below w.heap.size w w1 := ((Below.refl _ w).alloc (Nat.le_refl _) _).grown hgrow (by simp) (fun k hk => by cases hk)
   have HR1 := hid hr1
   have HR2 := hid hr2
   have HB := hid hbl
   clear hr1 hr2 hown hgrow hbl
   go_wp2
   refine bodyPost_ret (by simp [results, Tryz.results180, go_sem, q0, q1]; rfl) rfl ?_
   have e : decide (0 < n) = decide (0 < L) := by have := HP.out; simp [this]
   refine ⟨a2, c2, by rw [HLL.out, e]; simp [hn], ?_, ?_, (HB.out.setCell (Nat.le_refl _) _).setCell (Nat.le_refl _) _⟩
   ·rw [HLL.out]; exact (HR1.out.setCell (HR2.out _ (by simp))).setCell (HR2.out _ (by simp))
   ·rw [HLL.out]; exact fun R hR _ => HR2.out R (by omega)
set_option maxHeartbeats 400000 in
theorem frac_compare (u v : Value) (xs ys : List Nat) (w : World) (hx : Rd32 w u xs) (hy : Rd32 w v ys) :
  Calls Tryz.prog 179 #[u, v] w (Quiet w (.int .i64 (cmpL xs ys))) := by
 obtain ⟨a, c, rfl, hc, hm, hxr, hxc⟩ := hx
 obtain ⟨a', c', rfl, hc', hm', hyr, hyc⟩ := hy
 obtain ⟨n, hn⟩ : ∃ n, n = xs.length := ⟨_, rfl⟩
 obtain ⟨n', hn'⟩ : ∃ n, n = ys.length := ⟨_, rfl⟩
 have HF : Hid (cmpL xs ys = if n = n' then cmpTop xs ys n else if n < n' then -1 else 1) := by simp [Hid, cmpL, hn, hn']
 generalize cmpL xs ys = F at *
 rw [← hn] at hc hxc ⊢
 rw [← hn'] at hc' hyc ⊢
 clear hn hn'
 unfold maxLen at hm hm'
 have hC := Compare_int (n : Int) (n' : Int)
 rw [isgn_nat] at hC
 by_cases hl : n = n'
 ·subst hl
  have HF' := HF.out
  rw [if_pos rfl] at HF'
  have HF2 := hid HF'
  rw [sgn_self] at hC
  have HC := hid hC
  clear HF' HF hC
  go_enter Tryz.func179, Tryz.ntmps179
  go_wp2_with (first | (go_at_call 139; refine (HC.out _).mono ?_; rintro e w' ⟨rfl, rfl⟩))
  go_loopg [6] n (fun N i w' => ∃ k : Nat, k = N ∧ k ≤ n ∧ i = .int .i64 ((k : Int) - 1) ∧ F = cmpTop xs ys k ∧ ∃ m, w' = w.drewN m)
  case atStart => exact ⟨n, rfl, Nat.le_refl _, rfl, HF2.out, 0, rfl⟩
  case round =>
   clear HF2 HC
   obtain ⟨k, rfl, hk, rfl, hf, m, rfl⟩ := hrel
   have HC := hid hf
   clear hf
   rcases k with _ | k
   ·go_wp2
    go_ret
    exact ⟨ret_int HC.out.symm, _, rfl⟩
   ·obtain ⟨b, o, rfl, hb, hcell⟩ := hxc (by omega)
    obtain ⟨b', o', rfl, hb', hcell'⟩ := hyc (by omega)
    have h1 : (w.drewN m).cell? ⟨b, o + k, none⟩ = _ := hcell k (by omega)
    have h2 : (w.drewN m).cell? ⟨b', o' + k, none⟩ = _ := hcell' k (by omega)
    have e1 : ((k + 1 : Nat) : Int) - 1 = (k : Int) := by omega
    rw [e1]
    obtain ⟨W, hW⟩ : ∃ W, w.drewN m = W := ⟨_, rfl⟩
    rw [hW] at h1 h2 ⊢
    have HW := hid hW
    clear hW
    have hF := HC.out
    rw [cmpTop] at hF
    generalize hX : xs.getD k 0 = x at *
    generalize hY : ys.getD k 0 = y at *
    have HF3 := hid hF
    have hC := Compare_u32 (x : Int) (y : Int)
    rw [isgn_nat] at hC
    clear hcell hcell' hF hX hY HC hxc hyc
    by_cases hlt : x < y
    ·rw [sgn_lt hlt] at hC
     have HC := hid hC
     clear hC
     go_wp2
     go_quiet ((go_at_call 238; exact Calls.quiet_of_same ((HC.out _).mono (fun _ _ h => ⟨h.1, h.2.symm⟩))))
     go_wp2
     go_ret
     exact ⟨ret_int (by rw [HF3.out, if_pos hlt]), _, by rw [← HW.out, World.drewN_drewN]⟩
    ·by_cases hgt : y < x
     ·rw [sgn_gt hgt] at hC
      have HC := hid hC
      clear hC
      go_wp2
      go_quiet ((go_at_call 238; exact Calls.quiet_of_same ((HC.out _).mono (fun _ _ h => ⟨h.1, h.2.symm⟩))))
      go_wp2
      go_ret
      exact ⟨ret_int (by rw [HF3.out, if_neg hlt, if_pos hgt]), _, by rw [← HW.out, World.drewN_drewN]⟩
     ·rw [show x = y from by omega, sgn_self] at hC
      rw [show x = y from by omega] at h1
      have HC := hid hC
      clear hC
      go_wp2
      go_quiet ((go_at_call 238; exact Calls.quiet_of_same ((HC.out _).mono (fun _ _ h => ⟨h.1, h.2.symm⟩))))
      go_wp2
      go_roundg k
      case measure => omega
      case rel => exact ⟨k, rfl, by omega, rfl, by rw [HF3.out, if_neg hlt, if_neg hgt], _, by rw [← HW.out, World.drewN_drewN]⟩
 ·have hF := HF.out
  rw [if_neg hl] at hF
  have HF2 := hid hF
  clear hF HF
  by_cases hlt : n < n'
  ·rw [sgn_lt hlt] at hC
   have HC := hid hC
   clear hC
   go_enter Tryz.func179, Tryz.ntmps179
   go_wp2_with (first | (go_at_call 139; refine (HC.out _).mono ?_; rintro e w' ⟨rfl, rfl⟩))
   go_ret
   exact ⟨ret_int (by rw [HF2.out, if_pos hlt]), 0, rfl⟩
  ·rw [sgn_gt (by omega)] at hC
   have HC := hid hC
   clear hC
   go_enter Tryz.func179, Tryz.ntmps179
   go_wp2_with (first | (go_at_call 139; refine (HC.out _).mono ?_; rintro e w' ⟨rfl, rfl⟩))
   go_ret
   exact ⟨ret_int (by rw [HF2.out, if_neg hlt]), 0, rfl⟩
def QuietQR (w : World) (q r : Nat) (e : Ending) (w' : World) : Prop := e = .returned (.tuple #[.int .u32 (q : Int), .int .u32 (r : Int)]) ∧ ∃ k, w' = w.drewN k
set_option maxHeartbeats 400000 in
theorem Div32_of (hi lo d : Nat) (w : World) (h1 : hi < d) (h2 : lo < 4294967296) (h3 : d < 4294967296) :
  Calls Tryz.prog 292 #[.int .u32 (hi : Int), .int .u32 (lo : Int), .int .u32 (d : Int)] w (QuietQR w ((hi * 4294967296 + lo) / d) ((hi * 4294967296 + lo) % d)) := by
 have hor : bits BinOp.or IntKind.u64 ((hi : Int) * 4294967296) (lo : Int) = ((hi * 4294967296 + lo : Nat) : Int) := by
  rw [show ((hi : Int) * 4294967296) = ((hi * 4294967296 : Nat) : Int) from by omega, u64_or_nat _ _ (by omega) (by omega), nat_join32 _ _ (by omega) (by omega)]
 have hq : (hi * 4294967296 + lo) / d < 4294967296 := by
  rw [Nat.div_lt_iff_lt_mul (by omega)]
  have : (hi + 1) * 4294967296 ≤ d * 4294967296 := Nat.mul_le_mul_right _ (by omega)
  omega
 have hr : (hi * 4294967296 + lo) % d < d := Nat.mod_lt _ (by omega)
 have ht : hi * 4294967296 + lo < 18446744073709551616 := by omega
 generalize hi * 4294967296 + lo = t at *
 have hdne : ((d : Int) != 0) = true := by simp; omega
 have hq' : ((t : Int) / (d : Int)) = ((t / d : Nat) : Int) := by rw [Int.natCast_ediv]
 have hr' : ((t : Int) % (d : Int)) = ((t % d : Nat) : Int) := by rw [Int.natCast_emod]
 generalize hqv : t / d = q at *
 generalize hrv : t % d = r at *
 clear hqv hrv
 go_enter Tryz.func292, Tryz.ntmps292
 go_wp2
 go_quiet (fail)
 go_wp2
 go_ret2
 exact ⟨by trivial, _, rfl⟩
end Go.Proofs.YthblaeleogdfpaaGreatDoor.Fr

namespace Go.Proofs.YthblaeleogdfpaaGreatDoor.Fr
open Go.RowKit
def HoldsZ (us : List Value) (B : Nat) (w : World) (v : Value) (n : Nat) : Prop :=
  ∃ a c, v = .slice a (dig n).length c ∧ Rd32 w (.slice a (dig n).length c) (dig n) ∧ (∀ R, R < B → (∀ u ∈ us, Off R u) → Off R (.slice a (dig n).length c))
theorem HoldsZ.kept {us : List Value} {B n : Nat} {w w' : World} {v : Value} (h : HoldsZ us B w v n) (hb : Below w.heap.size w w') : HoldsZ us B w' v n := by
 obtain ⟨a, c, e, h1, h2⟩ := h
 exact ⟨a, c, e, h1.kept hb, h2⟩
theorem HoldsZ.rd {us : List Value} {B n : Nat} {w : World} {v : Value} (h : HoldsZ us B w v n) : Rd32 w v (dig n) := by
 obtain ⟨a, c, rfl, h1, h2⟩ := h
 exact h1
theorem HoldsZ.head {us : List Value} {B n : Nat} {w : World} {v : Value} (h : HoldsZ us B w v n) (hn : 0 < n) :
  ∃ b o L c, v = .slice (some ⟨b, o, none⟩) L c ∧ 0 < L ∧ w.cell? ⟨b, o, none⟩ = some (.int .u32 ((n % 4294967296 : Nat) : Int)) := by
 obtain ⟨a, c, rfl, h1, h2⟩ := h
 obtain ⟨a', c', e, h3, h4, h5, h6⟩ := h1
 obtain ⟨rfl, _, rfl⟩ := Value.slice.inj e
 obtain ⟨b, o, rfl, h7, h8⟩ := h6 (dig_length_pos.2 hn)
 refine ⟨b, o, _, _, rfl, dig_length_pos.2 hn, ?_⟩
 have := h8 0 (dig_length_pos.2 hn)
 rw [dig_getD_zero] at this
 exact this
theorem HoldsZ.len {us : List Value} {B n : Nat} {w : World} {v : Value} (h : HoldsZ us B w v n) : ∃ p L c, v = .slice p L c ∧ (0 < L ↔ 0 < n) := by
 obtain ⟨a, c, rfl, h1, h2⟩ := h
 exact ⟨_, _, _, rfl, dig_length_pos⟩
theorem HoldsZ.of_gives {us : List Value} {B n : Nat} {w w1 : World} {a : Option Addr} {c : Nat} (hB : B ≤ w.heap.size) (h : Rd32 w1 (.slice a (dig n).length c) (dig n)) (ho : ∀ R, R < w.heap.size → Off R (.slice a (dig n).length c)) :
  HoldsZ us B w1 (.slice a (dig n).length c) n := ⟨a, c, rfl, h, fun R hR _ => ho R (by omega)⟩
def GivesS (us : List Value) (w : World) (n : Nat) (e : Ending) (w' : World) : Prop := ∃ v, e = .returned v ∧ HoldsZ us w.heap.size w' v n ∧ Below w.heap.size w w'
theorem Rd32.holds {w : World} {v : Value} {n : Nat} (us : List Value) (B : Nat) (h : Rd32 w v (dig n)) (hu : v ∈ us) : HoldsZ us B w v n := by
 have h' := h
 obtain ⟨a, c, rfl, _⟩ := h
 exact ⟨a, c, rfl, h', fun R _ h => h _ hu⟩
end Go.Proofs.YthblaeleogdfpaaGreatDoor.Fr
