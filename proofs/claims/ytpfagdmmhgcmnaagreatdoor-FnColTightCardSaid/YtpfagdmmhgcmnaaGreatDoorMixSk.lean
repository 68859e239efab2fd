import Derived.Test.YtpfagdmmhgcmnaaGreatDoorMixTn
import Derived.Test.YtpfagdmmhgcmnaaGreatDoorMixO
import Derived.Test.YtpfagdmmhgcmnaaGreatDoorMixTj
set_option linter.unusedVariables false
set_option linter.unusedSimpArgs false
namespace Go.Proofs.YtpfagdmmhgcmnaaGreatDoor
theorem cells_len (m : Nat) (t : Tbl) (r : Nat) : ∀ (xs : List TCell) (n : Nat) (S : List GCell × Int), (cellsSt m t r xs n S).1.length = S.1.length + xs.length
 | [], _, _ => rfl
 | x :: xs, n, S => by
  show (cellsSt m t r xs (n + 1) (step1 m t r n x S)).1.length = _
  rw [cells_len m t r xs]
  have : (step1 m t r n x S).1.length = S.1.length + 1 := by simp [step1]
  rw [this, List.length_cons]; omega
def cellsN : List TRow → Nat
 | [] => 0
 | y :: ys => y.cs.length + cellsN ys
theorem rows_len (m : Nat) (t : Tbl) : ∀ (ys : List TRow) (r : Nat) (S : List GCell × Int), (rowsSt m t ys r S).1.length = S.1.length + cellsN ys
 | [], _, _ => rfl
 | y :: ys, r, S => by
  show (rowsSt m t ys (r + 1) (cellsSt m t r y.cs 0 S)).1.length = _
  rw [rows_len m t ys, cells_len]
  show _ = S.1.length + (y.cs.length + cellsN ys)
  omega
theorem grid_len (m : Nat) (t : Tbl) : (gridL m t).1.length = cellsN t.rows := by
 show (rowsSt m t t.rows 0 (grid0 t)).1.length = _
 rw [rows_len]; simp [grid0]
end Go.Proofs.YtpfagdmmhgcmnaaGreatDoor

namespace Go.Proofs.YtpfagdmmhgcmnaaGreatDoor
open Go.RowKit
def cellOfT (t : Tbl) (c : GCell) : TCell := (t.rows.getD c.row.toNat default).cs.getD c.inn.toNat default
def CellOf (t : Tbl) (c : GCell) : Prop := CellAt t c ∧ c.cols = (cellOfT t c).c
theorem cellsSt_at (m : Nat) (t : Tbl) (r : Nat) : ∀ (xs : List TCell) (i : Nat) (S : List GCell × Int), (∀ c ∈ S.1, CellOf t c) → r < t.rows.length →
  xs = (t.rows.getD r default).cs.drop i → ∀ c ∈ (cellsSt m t r xs i S).1, CellOf t c := by
 intro xs
 induction xs with
 | nil => intro i S h _ _; exact h
 | cons x xs ih =>
  intro i S h hr hi
  have hlt : i < (t.rows.getD r default).cs.length := by
   have := congrArg List.length hi
   simp only [List.length_cons, List.length_drop] at this
   omega
  have hx : (t.rows.getD r default).cs.getD i default = x := by
   have h0 := congrArg (fun l => l.getD 0 default) hi
   simp only [List.getD_cons_zero, List.getD_eq_getElem?_getD, List.getElem?_drop, Nat.add_zero] at h0
   rw [List.getD_eq_getElem?_getD]
   exact h0.symm
  have hd2 : xs = (t.rows.getD r default).cs.drop (i + 1) := by
   have h0 := congrArg (List.drop 1) hi
   simpa only [List.drop_drop, List.drop_succ_cons, List.drop_zero, Nat.add_comm] using h0
  refine ih (i + 1) _ ?_ hr hd2
  intro c hc
  rcases List.mem_append.mp hc with hc | hc
  ·
   exact h c hc
  ·
   obtain rfl : c = _ := List.mem_singleton.mp hc
   refine ⟨⟨⟨Int.natCast_nonneg r, Int.ofNat_lt.mpr hr⟩, Int.natCast_nonneg i, ?_⟩, ?_⟩
   ·
    show (i : Int) < ((t.rows.getD ((r : Int)).toNat default).cs.length : Int)
    rw [Int.toNat_natCast]
    omega
   ·
    show x.c = ((t.rows.getD ((r : Int)).toNat default).cs.getD ((i : Int)).toNat default).c
    rw [Int.toNat_natCast, Int.toNat_natCast, hx]
theorem rowsSt_at (m : Nat) (t : Tbl) : ∀ (ys : List TRow) (r : Nat) (S : List GCell × Int), (∀ c ∈ S.1, CellOf t c) → ys = t.rows.drop r →
  ∀ c ∈ (rowsSt m t ys r S).1, CellOf t c := by
 intro ys
 induction ys with
 | nil => intro r S h _; exact h
 | cons y ys ih =>
  intro r S h hd
  have hr : r < t.rows.length := by
   have := congrArg List.length hd
   simp only [List.length_cons, List.length_drop] at this
   omega
  have hy : t.rows.getD r default = y := by
   have h0 := congrArg (fun l => l.getD 0 default) hd
   simp only [List.getD_cons_zero, List.getD_eq_getElem?_getD, List.getElem?_drop, Nat.add_zero] at h0
   rw [List.getD_eq_getElem?_getD]
   exact h0.symm
  have hd2 : ys = t.rows.drop (r + 1) := by
   have h0 := congrArg (List.drop 1) hd
   simpa [List.drop_drop, Nat.add_comm] using h0
  exact ih (r + 1) _ (cellsSt_at m t r y.cs 0 S h hr (by rw [hy]; rfl)) hd2
theorem grid_at (m : Nat) (t : Tbl) : ∀ c ∈ (gridL m t).1, CellOf t c :=
 rowsSt_at m t t.rows 0 (grid0 t) (fun c hc => absurd hc (by simp [grid0])) (by simp)
theorem cellsSt_mono (m : Nat) (t : Tbl) (r : Nat) : ∀ (xs : List TCell) (i : Nat) (S : List GCell × Int), S.2 ≤ (cellsSt m t r xs i S).2
 | [], _, _ => Int.le_refl _
 | x :: xs, i, S => Int.le_trans (show S.2 ≤ max S.2 _ from Int.le_max_left ..) (cellsSt_mono m t r xs (i + 1) _)
theorem rowsSt_mono (m : Nat) (t : Tbl) : ∀ (ys : List TRow) (r : Nat) (S : List GCell × Int), S.2 ≤ (rowsSt m t ys r S).2
 | [], _, _ => Int.le_refl _
 | y :: ys, r, S => Int.le_trans (cellsSt_mono m t r y.cs 0 S) (rowsSt_mono m t ys (r + 1) _)
theorem cellsN_le : ∀ (ys : List TRow), (∀ y ∈ ys, y.cs.length ≤ 5) → cellsN ys ≤ 5 * ys.length
 | [], _ => Nat.le_refl _
 | y :: ys, h => by
  have h1 := h y (List.mem_cons_self ..)
  have h2 := cellsN_le ys (fun z hz => h z (List.mem_cons_of_mem _ hz))
  simp only [cellsN, List.length_cons]
  omega
theorem txOk_size {s : ByteArray} (h : txOk s = true) : s.size ≤ 30 := by
 unfold txOk txtOk at h
 rcases Bool.or_eq_true_iff.mp h with h | h
 ·
  have : s.data.toList = [] := List.isEmpty_iff.mp h
  have : s.data.toList.length = 0 := by rw [this]; rfl
  simp at this
  have h2 : s.size = s.data.size := rfl
  rw [h2, this]; decide
 ·
  have := (Bool.and_eq_true_iff.mp h).2
  have := of_decide_eq_true this
  simpa using this
theorem wishT_in (s : ByteArray) : 0 ≤ wishT s ∧ wishT s ≤ s.size := by
 unfold wishT; split <;> omega
theorem grid_need {t : Tbl} (h : tblOk t = true) {k : Nat} (hy : ∀ (j : Nat) (hj : j < t.rows.length), t.rows[j].cs.length ≤ (if j = k then 5 else 4) ∧ ∀ x ∈ t.rows[j].cs, x.r ≠ 4) (m : Nat)
  {nd : ByteArray → Int} (hnd : ∀ s, 0 ≤ nd s ∧ nd s ≤ s.size) :
  ∃ n : Nat, (gridL m t).2 = n ∧ (1 ≤ n ∧ n ≤ 90) ∧ (∀ x ∈ (gridL m t).1, CellIn n (fun c => nd (textOf t c)) x ∧ CellAt t x ∧ 0 ≤ nd (textOf t x)) ∧ (gridL m t).1.length ≤ 40 := by
 have hlo : 1 ≤ (gridL m t).2 := Int.le_trans (show (1 : Int) ≤ max (t.cols.length : Int) 1 from Int.le_max_right ..) (rowsSt_mono m t t.rows 0 (grid0 t))
 have hup : (gridL m t).2 < 90 := GInv.rows m t t.rows 0 (room_rows h hy).1 (room_rows h hy).2
 have hp := tblOk_parts h
 refine ⟨(gridL m t).2.toNat, by omega, by omega, fun x hx => ?_, ?_⟩
 ·
  have hat := grid_at m t x hx
  have hin := grid_in h m x hx
  have hrow : t.rows.getD x.row.toNat default ∈ t.rows := by
   have : x.row.toNat < t.rows.length := by have := hat.1.1; omega
   rw [List.getD_eq_getElem?_getD, List.getElem?_eq_getElem this]; exact List.getElem_mem this
  have hce : cellOfT t x ∈ (t.rows.getD x.row.toNat default).cs := by
   have : x.inn.toNat < (t.rows.getD x.row.toNat default).cs.length := by have := hat.1.2; omega
   unfold cellOfT
   rw [List.getD_eq_getElem?_getD (l := (t.rows.getD x.row.toNat default).cs), List.getElem?_eq_getElem this]; exact List.getElem_mem this
  have hck := (hp.2.2.2.2.2.2 _ hrow).2 _ hce
  have h4 := (cellOk_parts hck).1.2
  have hs : txOk (textOf t x) = true := by
   have h0 := hck
   unfold cellOk at h0
   exact (Bool.and_eq_true_iff.mp h0).1
  have h30 := txOk_size hs
  have hn := hnd (textOf t x)
  refine ⟨⟨hin.col, hin.cols, by rw [hat.2]; exact h4, by have := hin.right; omega, ?_⟩, hat.1, hn.1⟩
  show nd (textOf t x) ≤ 30
  omega
 ·
  rw [grid_len]
  have := cellsN_le t.rows (fun y hyy => (hp.2.2.2.2.2.2 y hyy).1)
  have := hp.1.2
  omega
end Go.Proofs.YtpfagdmmhgcmnaaGreatDoor

namespace Go.Proofs.YtpfagdmmhgcmnaaGreatDoor
open Go.RowKit
def fillM (f : Nat → Int → Int) (i : Nat) (X : List Int) : List Int := X.mapIdx fun j x => if j < i then f j x else x
theorem fillM_length (f : Nat → Int → Int) (i : Nat) (X : List Int) : (fillM f i X).length = X.length := by simp [fillM]
theorem fillM_zero (f : Nat → Int → Int) (X : List Int) : fillM f 0 X = X := by
 apply List.ext_getElem (by simp [fillM])
 intro j h1 h2
 simp [fillM]
theorem fillM_at (f : Nat → Int → Int) (i : Nat) (X : List Int) : (fillM f i X).getD i 0 = X.getD i 0 := by
 simp only [fillM, List.getD_eq_getElem?_getD, List.getElem?_mapIdx]
 cases X[i]? <;> simp
theorem fillM_set (f : Nat → Int → Int) (i : Nat) (X : List Int) (h : i < X.length) : (fillM f i X).set i (f i (X.getD i 0)) = fillM f (i + 1) X := by
 apply List.ext_getElem (by simp [fillM])
 intro j h1 h2
 have hj : j < X.length := by simpa [fillM] using h2
 rw [List.getElem_set]
 simp only [fillM, List.getElem_mapIdx]
 by_cases e : i = j
 ·
  subst e; simp [List.getD_eq_getElem?_getD, hj]
 ·
  rw [if_neg e]
  by_cases l : j < i
  ·
   rw [if_pos l, if_pos (by omega)]
  ·
   rw [if_neg l, if_neg (by omega)]
theorem fillM_skip (f : Nat → Int → Int) (i : Nat) (X : List Int) (h : f i (X.getD i 0) = X.getD i 0) : fillM f (i + 1) X = fillM f i X := by
 apply List.ext_getElem (by simp [fillM])
 intro j h1 h2
 have hj : j < X.length := by simpa [fillM] using h2
 simp only [fillM, List.getElem_mapIdx]
 by_cases e : j = i
 ·
  subst e
  rw [if_pos (by omega), if_neg (by omega)]
  simpa [List.getD_eq_getElem?_getD, hj] using h
 ·
  by_cases l : j < i
  ·
   rw [if_pos l, if_pos (by omega)]
  ·
   rw [if_neg l, if_neg (by omega)]
theorem fillM_all (f : Nat → Int → Int) (i : Nat) (X : List Int) (h : ∀ j x, i ≤ j → f j x = x) : fillM f i X = X.mapIdx f := by
 apply List.ext_getElem (by simp [fillM])
 intro j h1 h2
 simp only [fillM, List.getElem_mapIdx]
 by_cases l : j < i
 ·
  rw [if_pos l]
 ·
  rw [if_neg l, h j _ (by omega)]
def saidN (t : Tbl) (i : Nat) (x : Int) : Int := if (saidOf t i).k = 1 then max x (saidOf t i).n else x
def leastL (t : Tbl) (cells : List GCell) (n : Nat) : List Int := (made t.gap (fun c => leastT (textOf t c)) cells n).mapIdx (saidN t)
theorem saidN_out (t : Tbl) (j : Nat) (x : Int) (h : t.cols.length ≤ j) : saidN t j x = x := by
 unfold saidN; rw [saidOf_out t j (by omega)]; simp
theorem need_least : NeedOk 23 leastT := ⟨enters_of Tryz.func23 (by kernel_rfl) rfl, fun s W h hB => impl_TxtLeast s W h hB⟩
theorem need_wish : NeedOk 29 wishT := ⟨enters_of Tryz.func29 (by kernel_rfl) rfl, fun s W h hB => impl_TxtWish s W h hB⟩
set_option maxRecDepth 100000 in
set_option maxHeartbeats 4000000 in
theorem impl_least (t : Tbl) (A : Option Addr) (c : Nat) (A' : Option Addr) (c' : Nat) (gr : Int) (n : Nat) (cells : List GCell) (GA : Option Addr) (gc : Nat) (w : World) (hw : Base w) (hc : Rd colR w A t.cols) (hr : Rd rowR w A' t.rows) (hG : Rd gcR w GA cells)
  (hg : 0 ≤ t.gap ∧ t.gap ≤ 3) (hn : 1 ≤ n ∧ n ≤ 1000) (hcell : ∀ x ∈ cells, CellIn n (fun c => leastT (textOf t c)) x ∧ CellAt t x ∧ 0 ≤ leastT (textOf t x)) (hcl : cells.length ≤ 1000) (htc : t.cols.length ≤ n) :
  Calls Tryz.prog 55 #[.agg #[.slice A t.cols.length c, .int .i64 t.head, .int .i64 t.foot, .slice A' t.rows.length c', .int .i64 t.gap], .agg #[.int .i64 gr, .int .i64 n, .slice GA cells.length gc]] w fun e w' => ∃ v, e = .returned v ∧ IOwn w' w.heap.size v (leastL t cells n) ∧ Below w.heap.size w w' := by
 have hM := fun (W : World) (h : Below w.heap.size w W) => impl_made t A c A' c' gr n cells GA gc 23 leastT W (hw.below h) (hr.below h) (hG.below h) need_least hg hn hcell hcl
 have hlen : (made t.gap (fun c => leastT (textOf t c)) cells n).length = n := (made_spec hg.1 (fun x hx => (hcell x hx).1)).1.1
 have HC := hide hc
 generalize hX : made t.gap (fun c => leastT (textOf t c)) cells n = X at hM hlen
 have HX := hide hX
 have HL := hide hlen
 clear hw hc hr hG hcell hX hlen
 go_enter Tryz.func55, Tryz.ntmps55
 go_wp2_with fail
 refine (hM _ (balloc (balloc (brefl _) _) _)).mono ?_
 rintro e w1 ⟨v, rfl, hO, hb⟩
 obtain ⟨c0, f0, s0⟩ := seenBk w.heap.size (by first | (simp; omega) | simp [*]) hb
 obtain ⟨c1, f1, s1⟩ := seenBk (w.heap.size + 1) (by first | (simp; omega) | simp [*]) hb
 have hb2 := hide (step (balloc (balloc (brefl _) _) _) hb)
 obtain ⟨g, cc, rfl, hg1, hg2, _, _⟩ := hO.at (by rw [HL.out]; exact hn.1)
 have hgw : w.heap.size ≤ g := by simp at hg1; omega
 rw [HL.out]
 rw [HL.out] at hO
 have HO := hide (hO.base (base' := w.heap.size) (by simp; omega))
 clear hO hb hg1 hg2 hM
 have hmax := max_int
 go_wp2_with fail
 go_loopg [6, 7, 14] t.cols.length (fun gg s6 s7 s14 wr => ∃ kk : Nat, kk ≤ t.cols.length ∧ t.cols.length - kk ≤ gg ∧ s14 = .int .i64 kk ∧ Aside (Below w.heap.size w wr) ∧ Aside (IOwn wr w.heap.size (.slice (some ⟨g, 0, none⟩) n cc) (fillM (saidN t) kk X)))
 case atStart => exact ⟨0, Nat.zero_le _, by omega, rfl, hb2.out, (show Aside _ from by rw [fillM_zero]; exact HO.out)⟩
 case round =>
  obtain ⟨kk, hkk, hgg, rfl, HB, HM⟩ := hrel
  by_cases hlt : kk < t.cols.length
  ·
   have hltz : (kk : Int) < (t.cols.length : Int) := by omega
   obtain ⟨b, o, q0, q1, rfl, hblt, hK, e0, e1⟩ := HC.out.at2 rfl HB.out kk hlt
   have q : [q0, q1] = [.int .i64 t.cols[kk].k, .int .i64 t.cols[kk].n] := hK
   simp only [List.cons.injEq, and_true] at q
   obtain ⟨rfl, rfl⟩ := q
   clear hK
   have hsd := saidOf_in t kk hlt
   have hS : saidN t kk = fun x => if t.cols[kk].k = 1 then max x t.cols[kk].n else x := by
    funext x; unfold saidN; rw [hsd]
   have HS := hide hS
   clear hS hsd
   generalize t.cols[kk].k = k0 at e0 HS
   generalize t.cols[kk].n = n0 at e1 HS
   have hml : kk < (fillM (saidN t) kk X).length := by rw [fillM_length, HL.out]; omega
   by_cases h1 : k0 = 1
   ·
    have h1z : (k0 == 1) = true := by simp [h1]
    have cm := HM.out.cell (j := kk) hml
    have fm := HM.out.frozen kk
    rw [fillM_at] at cm
    have hst := HM.out.store kk (saidN t kk (X.getD kk 0))
    rw [fillM_set _ _ _ (by rw [HL.out]; omega), congrFun HS.out, if_pos h1] at hst
    have HST := hide hst
    generalize X.getD kk 0 = y at cm HST
    clear hst hml
    have hgl : g < wr.heap.size := by
     obtain ⟨g', c2, e, _, h2, _⟩ := HM.out.at (by rw [fillM_length, HL.out]; omega)
     injection e with e; injection e with e; injection e with e; omega
    have hgn : ¬ wr.heap.size = g := by omega
    have hgn2 : ¬ g = wr.heap.size := by omega
    have hkn : (kk : Int) < (n : Int) := by omega
    go_wp2_with fail
    go_big_region
    go_wp2_with fail
    go_roundg (t.cols.length - (kk + 1))
    case measure => omega
    case rel => exact ⟨kk + 1, by omega, by omega, by go_num, (show Aside _ from bdrew (balloc (bset HB.out (by show w.heap.size ≤ g; omega) _) _)), (show Aside _ from HST.out.below (bdrew (balloc (brefl _) _)))⟩
   ·
    have h1z : (k0 == 1) = false := by simp [h1]
    have HK := hide (fillM_skip (saidN t) kk X (by rw [congrFun HS.out, if_neg h1]))
    clear h1
    go_wp2_with fail
    go_roundg (t.cols.length - (kk + 1))
    case measure => omega
    case rel => exact ⟨kk + 1, by omega, by omega, by go_num, (show Aside _ from balloc HB.out _), (show Aside _ from by rw [HK.out]; exact HM.out.below (balloc (brefl _) _))⟩
  ·
   have hltz : ¬ (kk : Int) < (t.cols.length : Int) := by omega
   have HK := hide (show fillM (saidN t) kk X = leastL t cells n by
    rw [fillM_all _ _ _ (fun j x hj => saidN_out t j x (by omega))]; unfold leastL; rw [HX.out])
   go_wp2_with fail
   go_ret
   exact ⟨_, rfl, by rw [← HK.out]; exact HM.out, HB.out⟩
end Go.Proofs.YtpfagdmmhgcmnaaGreatDoor

namespace Go.Proofs.YtpfagdmmhgcmnaaGreatDoor
open Go.RowKit
def colLeastL (m : Nat) (t : Tbl) : List Int := if tblOk t = true then leastL t (gridL m t).1 (gridL m t).2.toNat else []
theorem grid_cols_le (m : Nat) (t : Tbl) : (t.cols.length : Int) ≤ (gridL m t).2 :=
 Int.le_trans (show (t.cols.length : Int) ≤ max (t.cols.length : Int) 1 from Int.le_max_left ..) (rowsSt_mono m t t.rows 0 (grid0 t))
theorem grd_rd {w : World} {base c : Nat} {A : Option Addr} {xs : List GCell} (h : w.ownsRow base 39 5 (.slice A xs.length c) xs.length (xs.flatMap gcE)) (hx : ∀ x ∈ xs, GSm x) : Rd gcR w A xs := by
 obtain ⟨Ao, co, eo, _, ro⟩ := own_rd (enc := gcE) (hk := fun _ => rfl) h
 injection eo with e1 _ _
 rw [e1]
 exact rd_mono (d := flat 5 gcE (fun _ => rfl)) (d' := gcR) rfl (fun a ha cs h => ⟨h, hx a ha⟩) ro
set_option maxRecDepth 100000 in
set_option maxHeartbeats 4000000 in
theorem impl_ColLeast (t : Tbl) (A : Option Addr) (c : Nat) (A' : Option Addr) (c' : Nat) (w : World) (hw : Base w) (hc : Rd colR w A t.cols) (hr : Rd rowR w A' t.rows)
  {k : Nat} (hy : ∀ (j : Nat) (hj : j < t.rows.length), t.rows[j].cs.length ≤ (if j = k then 5 else 4) ∧ ∀ x ∈ t.rows[j].cs, x.r ≠ 4) :
  Calls Tryz.prog 16 #[.agg #[.slice A t.cols.length c, .int .i64 t.head, .int .i64 t.foot, .slice A' t.rows.length c', .int .i64 t.gap]] w fun e w' => ∃ v, e = .returned v ∧ IOwn w' w.heap.size v (colLeastL 400 t) ∧ Below w.heap.size w w' := by
 have hT := fun (W : World) (h : Below w.heap.size w W) => impl_TblOk t A c A' c' W (hw.below h) (hc.below h) (hr.below h)
 cases hok : tblOk t with
 | false =>
  rw [hok] at hT
  have hres : colLeastL 400 t = [] := by unfold colLeastL; rw [hok]; rfl
  rw [hres]
  clear hres hok hc hr hw hy
  go_enter Tryz.func16, Tryz.ntmps16
  go_wp2_with fail
  refine (hT _ (balloc (brefl _) _)).mono ?_
  rintro e w1 ⟨rfl, hb⟩
  go_wp2_with fail
  go_ret
  exact ⟨_, rfl, IOwn.nil _ _, step (balloc (brefl _) _) hb⟩
 | true =>
  have hG := fun (W : World) (h : Below w.heap.size w W) => impl_GrdOf t A c A' c' W (hw.below h) (hc.below h) (hr.below h)
  rw [hok] at hT
  have hgr : gridOf 400 t = ⟨t.rows.length, (gridL 400 t).2, (gridL 400 t).1⟩ := by unfold gridOf; rw [if_pos hok]
  rw [hgr] at hG
  obtain ⟨n, hn, hn1, hcell, hcl⟩ := grid_need hok hy 400 leastT_in
  have hle := grid_cols_le 400 t
  have hsm : Hid (∀ x ∈ (gridL 400 t).1, GSm x) := (GIn.rows (m := 400) hok).sm (by omega)
  have hres : Hid (colLeastL 400 t = leastL t (gridL 400 t).1 n) := by show colLeastL 400 t = _; unfold colLeastL; rw [if_pos hok, hn]; rfl
  rw [hres.out]
  rw [hn] at hG hle
  have hL := fun (W : World) (h : Below w.heap.size w W) GA gc hg => impl_least t A c A' c' t.rows.length n (gridL 400 t).1 GA gc W (hw.below h) (hc.below h) (hr.below h) hg (tblOk_parts hok).2.2.1 ⟨hn1.1, by omega⟩ hcell (by omega) (by omega)
  clear hgr hok hc hr hw hres hy hn hcell hcl hle
  generalize gridL 400 t = GG at hG hL hsm ⊢
  obtain ⟨GL, GN⟩ := GG
  dsimp only at hG hL hsm ⊢
  go_enter Tryz.func16, Tryz.ntmps16
  go_wp2_with fail
  refine (hT _ (balloc (brefl _) _)).mono ?_
  rintro e w1 ⟨rfl, hb⟩
  obtain ⟨c0, f0, s0⟩ := seenBk w.heap.size (by first | (simp; omega) | simp [*]) hb
  have HB := hide (step (balloc (brefl w) _) hb)
  clear hT
  go_upto_region 3 with fail
  go_region_with (first
   | (go_at_call 21; refine (hG _ ?_).mono ?_; (first | exact HB.out | exact bdrew HB.out | exact bdrew (bdrew HB.out)); rintro e w2 ⟨GA, gc, rfl, hown, hb2⟩; obtain ⟨c2, f2, s2⟩ := seenBk w.heap.size (by first | (simp; omega) | simp [*]) hb2; have hrd := grd_rd hown hsm.out)
   | (go_at_call 55; refine (hL _ ?_ GA gc ?_).mono ?_; (first | exact step HB.out hb2 | exact step (bdrew HB.out) hb2 | exact bdrew (step HB.out hb2) | exact bdrew (step (bdrew HB.out) hb2)); (first | exact hrd | exact hrd.below (bdrew (brefl _))); rintro e w3 ⟨v, rfl, hI, hb3⟩))
  all_goals
   have hsz : w.heap.size ≤ w2.heap.size := Nat.le_trans HB.out.size hb2.size
   go_wp2_with fail
   go_ret
   refine ⟨_, rfl, ?_, ?_⟩
   ·
    first
     | exact hI.base hsz
     | exact (hI.base hsz).below (bdrew (brefl _))
   ·
    (repeat' (with_reducible first | exact HB.out | refine bdrew ?_ | refine step ?_ (by with_reducible assumption)))
end Go.Proofs.YtpfagdmmhgcmnaaGreatDoor

namespace Go.Proofs.YtpfagdmmhgcmnaaGreatDoor
open Go.RowKit
def overL (L : List Int) (i : Nat) (x : Int) : Int := max x (L.getD i 0)
def wishL (t : Tbl) (cells : List GCell) (n : Nat) : List Int := (made t.gap (fun c => wishT (textOf t c)) cells n).mapIdx (overL (leastL t cells n))
theorem fillM_full (f : Nat → Int → Int) (X : List Int) : fillM f X.length X = X.mapIdx f := by
 apply List.ext_getElem (by simp [fillM])
 intro j h1 h2
 have : j < X.length := by simpa using h2
 simp [fillM, this]
set_option maxRecDepth 100000 in
set_option maxHeartbeats 4000000 in
theorem impl_wish (t : Tbl) (A : Option Addr) (c : Nat) (A' : Option Addr) (c' : Nat) (gr : Int) (n : Nat) (cells : List GCell) (GA : Option Addr) (gc : Nat) (w : World) (hw : Base w) (hc : Rd colR w A t.cols) (hr : Rd rowR w A' t.rows) (hG : Rd gcR w GA cells)
  (hg : 0 ≤ t.gap ∧ t.gap ≤ 3) (hn : 1 ≤ n ∧ n ≤ 1000) (hcell : ∀ x ∈ cells, CellIn n (fun c => leastT (textOf t c)) x ∧ CellAt t x ∧ 0 ≤ leastT (textOf t x))
  (hcell2 : ∀ x ∈ cells, CellIn n (fun c => wishT (textOf t c)) x ∧ CellAt t x ∧ 0 ≤ wishT (textOf t x)) (hcl : cells.length ≤ 1000) (htc : t.cols.length ≤ n) :
  Calls Tryz.prog 69 #[.agg #[.slice A t.cols.length c, .int .i64 t.head, .int .i64 t.foot, .slice A' t.rows.length c', .int .i64 t.gap], .agg #[.int .i64 gr, .int .i64 n, .slice GA cells.length gc]] w fun e w' => ∃ v, e = .returned v ∧ IOwn w' w.heap.size v (wishL t cells n) ∧ Below w.heap.size w w' := by
 have hM := fun (W : World) (h : Below w.heap.size w W) => impl_made t A c A' c' gr n cells GA gc 29 wishT W (hw.below h) (hr.below h) (hG.below h) need_wish hg hn hcell2 hcl
 have hE := fun (W : World) (h : Below w.heap.size w W) => impl_least t A c A' c' gr n cells GA gc W (hw.below h) (hc.below h) (hr.below h) (hG.below h) hg hn hcell hcl htc
 have hlen : (made t.gap (fun c => wishT (textOf t c)) cells n).length = n := (made_spec hg.1 (fun x hx => (hcell2 x hx).1)).1.1
 have hlen2 : (leastL t cells n).length = n := by
  unfold leastL; rw [List.length_mapIdx]; exact (made_spec hg.1 (fun x hx => (hcell x hx).1)).1.1
 have hw2 : wishL t cells n = (made t.gap (fun c => wishT (textOf t c)) cells n).mapIdx (overL (leastL t cells n)) := rfl
 generalize hX : made t.gap (fun c => wishT (textOf t c)) cells n = X at hM hlen hw2
 generalize hY : leastL t cells n = Y at hE hlen2 hw2
 have HL := hide hlen
 have HL2 := hide hlen2
 have HR := hide hw2
 clear hw hc hr hG hcell hcell2 hX hY hlen hlen2 hw2
 have hmax := max_int
 go_enter Tryz.func69, Tryz.ntmps69
 go_wp2_with fail
 refine (hM _ (balloc (balloc (brefl _) _) _)).mono ?_
 rintro e w1 ⟨v, rfl, hO, hb⟩
 obtain ⟨c0, f0, s0⟩ := seenBk w.heap.size (by first | (simp; omega) | simp [*]) hb
 obtain ⟨c1, f1, s1⟩ := seenBk (w.heap.size + 1) (by first | (simp; omega) | simp [*]) hb
 have hb2 := hide (step (balloc (balloc (brefl _) _) _) hb)
 obtain ⟨g, cc, rfl, hg1, hg2, _, _⟩ := hO.at (by rw [HL.out]; exact hn.1)
 have hgw : w.heap.size ≤ g := by simp at hg1; omega
 rw [HL.out]
 rw [HL.out] at hO
 have HO := hide (hO.base (base' := w.heap.size) (by simp; omega))
 clear hO hb hg1 hM
 go_wp2_with fail
 refine (hE _ hb2.out).mono ?_
 rintro e w3 ⟨v, rfl, hO3, hb3⟩
 have HB3 := hide (step hb2.out hb3)
 have HX3 := hide (HO.out.below hb3)
 obtain ⟨g3, c3, rfl, hg3, hg4, _, _⟩ := hO3.at (by rw [HL2.out]; exact hn.1)
 have hne : g ≠ g3 := by omega
 rw [HL2.out]
 rw [HL2.out] at hO3
 have HO3 := hide hO3
 clear hO3 hb3 c0 c1 hE
 go_wp2_with fail
 go_loopg [6, 7, 15] n (fun gg s6 s7 s15 wr => ∃ kk : Nat, kk ≤ n ∧ n - kk ≤ gg ∧ s15 = .int .i64 kk ∧ Aside (Below w.heap.size w wr) ∧ Aside (IOwn wr w1.heap.size (.slice (some ⟨g3, 0, none⟩) n c3) Y) ∧ Aside (IOwn wr w.heap.size (.slice (some ⟨g, 0, none⟩) n cc) (fillM (overL Y) kk X)))
 case atStart => exact ⟨0, Nat.zero_le _, by omega, rfl, HB3.out, HO3.out, (show Aside _ from by rw [fillM_zero]; exact HX3.out)⟩
 case round =>
  obtain ⟨kk, hkk, hgg, rfl, HB, HY, HM⟩ := hrel
  by_cases hlt : kk < n
  ·
   have hltz : (kk : Int) < (n : Int) := by omega
   have hml : kk < (fillM (overL Y) kk X).length := by rw [fillM_length, HL.out]; omega
   have cm := HM.out.cell (j := kk) hml
   have fm := HM.out.frozen kk
   have cy := HY.out.cell (j := kk) (by rw [HL2.out]; omega)
   rw [fillM_at] at cm
   have hst := HM.out.store kk (overL Y kk (X.getD kk 0))
   have hso := HY.out.other (a := ⟨g, kk, none⟩) hne (.int .i64 (overL Y kk (X.getD kk 0)))
   rw [fillM_set _ _ _ (by rw [HL.out]; omega)] at hst
   unfold overL at hst hso
   have hst' : IOwn (wr.setCell ⟨g, kk, none⟩ (.int .i64 (max (X.getD kk 0) (Y.getD kk 0)))) w.heap.size (.slice (some ⟨g, 0, none⟩) n cc) (fillM (overL Y) (kk + 1) X) := hst
   have HST := hide hst'
   have HSO := hide hso
   generalize X.getD kk 0 = y at cm HST HSO
   generalize Y.getD kk 0 = z at cy HST HSO
   clear hst hst' hso hml
   go_wp2_with fail
   go_roundg (n - (kk + 1))
   case measure => omega
   case rel => exact ⟨kk + 1, by omega, by omega, by go_num, (show Aside _ from bset HB.out (by show w.heap.size ≤ g; omega) _), HSO.out, HST.out⟩
  ·
   have hltz : ¬ (kk : Int) < (n : Int) := by omega
   have HK := hide (show fillM (overL Y) kk X = wishL t cells n by
    rw [show kk = X.length by rw [HL.out]; omega, fillM_full, HR.out])
   go_wp2_with fail
   go_ret
   exact ⟨_, rfl, by rw [← HK.out]; exact HM.out, HB.out⟩
end Go.Proofs.YtpfagdmmhgcmnaaGreatDoor

namespace Go.Proofs.YtpfagdmmhgcmnaaGreatDoor
open Go.RowKit
def colWishL (m : Nat) (t : Tbl) : List Int := if tblOk t = true then wishL t (gridL m t).1 (gridL m t).2.toNat else []
set_option maxRecDepth 100000 in
set_option maxHeartbeats 4000000 in
theorem impl_ColWish (t : Tbl) (A : Option Addr) (c : Nat) (A' : Option Addr) (c' : Nat) (w : World) (hw : Base w) (hc : Rd colR w A t.cols) (hr : Rd rowR w A' t.rows)
  {k : Nat} (hy : ∀ (j : Nat) (hj : j < t.rows.length), t.rows[j].cs.length ≤ (if j = k then 5 else 4) ∧ ∀ x ∈ t.rows[j].cs, x.r ≠ 4) :
  Calls Tryz.prog 26 #[.agg #[.slice A t.cols.length c, .int .i64 t.head, .int .i64 t.foot, .slice A' t.rows.length c', .int .i64 t.gap]] w fun e w' => ∃ v, e = .returned v ∧ IOwn w' w.heap.size v (colWishL 400 t) ∧ Below w.heap.size w w' := by
 have hT := fun (W : World) (h : Below w.heap.size w W) => impl_TblOk t A c A' c' W (hw.below h) (hc.below h) (hr.below h)
 cases hok : tblOk t with
 | false =>
  rw [hok] at hT
  have hres : colWishL 400 t = [] := by unfold colWishL; rw [hok]; rfl
  rw [hres]
  clear hres hok hc hr hw hy
  go_enter Tryz.func26, Tryz.ntmps26
  go_wp2_with fail
  refine (hT _ (balloc (brefl _) _)).mono ?_
  rintro e w1 ⟨rfl, hb⟩
  go_wp2_with fail
  go_ret
  exact ⟨_, rfl, IOwn.nil _ _, step (balloc (brefl _) _) hb⟩
 | true =>
  have hG := fun (W : World) (h : Below w.heap.size w W) => impl_GrdOf t A c A' c' W (hw.below h) (hc.below h) (hr.below h)
  rw [hok] at hT
  have hgr : gridOf 400 t = ⟨t.rows.length, (gridL 400 t).2, (gridL 400 t).1⟩ := by unfold gridOf; rw [if_pos hok]
  rw [hgr] at hG
  obtain ⟨n, hn, hn1, hcell, hcl⟩ := grid_need hok hy 400 leastT_in
  obtain ⟨n', hn', _, hcell2, _⟩ := grid_need hok hy 400 wishT_in
  have hnn : n = n' := by omega
  subst hnn
  have hle := grid_cols_le 400 t
  have hsm : Hid (∀ x ∈ (gridL 400 t).1, GSm x) := (GIn.rows (m := 400) hok).sm (by omega)
  have hres : Hid (colWishL 400 t = wishL t (gridL 400 t).1 n) := by show colWishL 400 t = _; unfold colWishL; rw [if_pos hok, hn]; rfl
  rw [hres.out]
  rw [hn] at hG hle
  have hL := fun (W : World) (h : Below w.heap.size w W) GA gc hg => impl_wish t A c A' c' t.rows.length n (gridL 400 t).1 GA gc W (hw.below h) (hc.below h) (hr.below h) hg (tblOk_parts hok).2.2.1 ⟨hn1.1, by omega⟩ hcell hcell2 (by omega) (by omega)
  clear hgr hok hc hr hw hres hy hn hcell hcell2 hcl hn' hle
  generalize gridL 400 t = GG at hG hL hsm ⊢
  obtain ⟨GL, GN⟩ := GG
  dsimp only at hG hL hsm ⊢
  go_enter Tryz.func26, Tryz.ntmps26
  go_wp2_with fail
  refine (hT _ (balloc (brefl _) _)).mono ?_
  rintro e w1 ⟨rfl, hb⟩
  obtain ⟨c0, f0, s0⟩ := seenBk w.heap.size (by first | (simp; omega) | simp [*]) hb
  have HB := hide (step (balloc (brefl w) _) hb)
  clear hT
  go_upto_region 3 with fail
  go_region_with (first
   | (go_at_call 21; refine (hG _ ?_).mono ?_; (first | exact HB.out | exact bdrew HB.out | exact bdrew (bdrew HB.out)); rintro e w2 ⟨GA, gc, rfl, hown, hb2⟩; obtain ⟨c2, f2, s2⟩ := seenBk w.heap.size (by first | (simp; omega) | simp [*]) hb2; have hrd := grd_rd hown hsm.out)
   | (go_at_call 69; refine (hL _ ?_ GA gc ?_).mono ?_; (first | exact step HB.out hb2 | exact step (bdrew HB.out) hb2 | exact bdrew (step HB.out hb2) | exact bdrew (step (bdrew HB.out) hb2)); (first | exact hrd | exact hrd.below (bdrew (brefl _))); rintro e w3 ⟨v, rfl, hI, hb3⟩))
  all_goals
   have hsz : w.heap.size ≤ w2.heap.size := Nat.le_trans HB.out.size hb2.size
   go_wp2_with fail
   go_ret
   refine ⟨_, rfl, ?_, ?_⟩
   ·
    first
     | exact hI.base hsz
     | exact (hI.base hsz).below (bdrew (brefl _))
   ·
    (repeat' (with_reducible first | exact HB.out | refine bdrew ?_ | refine step ?_ (by with_reducible assumption)))
end Go.Proofs.YtpfagdmmhgcmnaaGreatDoor

namespace Go.Proofs.YtpfagdmmhgcmnaaGreatDoor
open Go.RowKit
theorem irow_rd {w : World} {base c n : Nat} {A : Option Addr} {xs : List Int} (h : IOwn w base (.slice A n c) xs) : Rd intR w A xs := by
 obtain ⟨A2, c2, e, _, hr⟩ := h.rd
 injection e with e1 _ _
 rw [e1]; exact hr
end Go.Proofs.YtpfagdmmhgcmnaaGreatDoor

namespace Go.Proofs.YtpfagdmmhgcmnaaGreatDoor
open Go.RowKit
def GoodRows (t : Tbl) (k : Nat) : Prop := ∀ (j : Nat) (hj : j < t.rows.length), t.rows[j].cs.length ≤ (if j = k then 5 else 4) ∧ ∀ x ∈ t.rows[j].cs, x.r ≠ 4
theorem anyBd.good {t : Tbl} (h : anyBd t) : ∃ k, GoodRows t k := by
 obtain ⟨k, hk⟩ := h.cells
 exact ⟨k, fun j hj => ⟨(hk j hj).1, fun x hx => ((hk j hj).2 x hx).2.2.2.2.2.1⟩⟩
theorem said_fixed {t : Tbl} (h : tblOk t = true) (i : Int) (hk : (saidOf t i).k = 1) : 0 ≤ (saidOf t i).n ∧ (saidOf t i).n ≤ 60 := by
 unfold saidOf at hk ⊢
 split at hk
 ·
  rename_i hi
  rw [if_pos hi]
  have hlt : i.toNat < t.cols.length := by omega
  rw [List.getD_eq_getElem?_getD, List.getElem?_eq_getElem hlt] at hk ⊢
  have hc := (tblOk_parts h).2.2.2.2.2.1 _ (List.getElem_mem hlt)
  simp only [Option.getD_some] at hk ⊢
  unfold colOk at hc
  rw [if_neg (by omega), if_pos hk] at hc
  simpa [inB] using hc
 ·
  exact absurd hk (by decide)
theorem mapIdx_getD (f : Nat → Int → Int) (xs : List Int) (j : Nat) (h : j < xs.length) : (xs.mapIdx f).getD j 0 = f j (xs.getD j 0) := by
 simp [List.getD_eq_getElem?_getD, h]
theorem saidN_in {t : Tbl} (h : tblOk t = true) (j : Nat) (x : Int) (hx : 0 ≤ x ∧ x ≤ 30) : x ≤ saidN t j x ∧ saidN t j x ≤ 60 ∧ ((saidOf t j).k = 1 → (saidOf t j).n ≤ saidN t j x) := by
 unfold saidN
 split
 ·
  rename_i hk
  have := said_fixed h j hk
  exact ⟨Int.le_max_left .., Int.max_le.2 ⟨by omega, this.2⟩, fun _ => Int.le_max_right ..⟩
 ·
  rename_i hk
  exact ⟨Int.le_refl _, by omega, fun h' => absurd h' hk⟩
theorem colLeast_two {t : Tbl} {k : Nat} (hy : GoodRows t k) : colLeastL 90 t = colLeastL 400 t := by
 unfold colLeastL
 split
 ·
  rename_i h
  rw [grid_one h hy]
 ·
  rfl
end Go.Proofs.YtpfagdmmhgcmnaaGreatDoor

namespace Go.Proofs.YtpfagdmmhgcmnaaGreatDoor
open Go.RowKit
set_option maxHeartbeats 1000000 in
theorem impl_among (i a k : Int) (w : World) (hi : 0 ≤ i ∧ i ≤ 1000000) (ha : 0 ≤ a ∧ a ≤ 1000000) (hk : 0 ≤ k ∧ k ≤ 1000000) :
  Calls Tryz.prog 113 #[.int .i64 i, .int .i64 a, .int .i64 k] w fun e w' => e = .returned (.bool (decide (a ≤ i ∧ i < a + k))) ∧ w' = w := by
 have t1 : IntKind.u64.wrap i = i := by rw [IntKind.wrap_u64]; omega
 have t2 : IntKind.u64.wrap a = a := by rw [IntKind.wrap_u64]; omega
 have t3 : IntKind.u64.wrap k = k := by rw [IntKind.wrap_u64]; omega
 obtain ⟨q, hq⟩ : ∃ q, decide (a ≤ i ∧ i < a + k) = q := ⟨_, rfl⟩
 rw [hq]
 have HQ := hide hq
 clear hq
 by_cases h1 : a ≤ i
 ·
  by_cases h2 : 0 < k
  ·
   have t4 : IntKind.u64.wrap (i - a) = i - a := by rw [IntKind.wrap_u64]; omega
   by_cases h3 : i - a < k
   ·
    have hd := hide (show q = true by rw [← HQ.out]; simp; omega)
    go_enter Tryz.func113, Tryz.ntmps113
    go_wp2_with fail
    go_ret
    exact ⟨by rw [hd.out]; try rfl, rfl⟩
   ·
    have hd := hide (show q = false by rw [← HQ.out]; simp; omega)
    go_enter Tryz.func113, Tryz.ntmps113
    go_wp2_with fail
    go_ret
    exact ⟨by rw [hd.out]; try rfl, rfl⟩
  ·
   have hd := hide (show q = false by rw [← HQ.out]; simp; omega)
   go_enter Tryz.func113, Tryz.ntmps113
   go_wp2_with fail
   go_ret
   exact ⟨by rw [hd.out]; try rfl, rfl⟩
 ·
  have hd := hide (show q = false by rw [← HQ.out]; simp; omega)
  go_enter Tryz.func113, Tryz.ntmps113
  go_wp2_with fail
  go_ret
  exact ⟨by rw [hd.out]; try rfl, rfl⟩
end Go.Proofs.YtpfagdmmhgcmnaaGreatDoor

namespace Go.Proofs.YtpfagdmmhgcmnaaGreatDoor
open Go.RowKit
set_option maxHeartbeats 1000000 in
theorem spec_l1Max (x y : Int) (w : World) : Calls Tryz.prog 105 #[.int .i64 x, .int .i64 y] w fun e w' => e = .returned (.int .i64 (max x y)) ∧ w' = w := by
 by_cases h : x > y
 ·
  have hm := hide (show max x y = x by omega)
  go_enter Tryz.func105, Tryz.ntmps105
  go_wp2_with fail
  go_ret
  exact ⟨by rw [hm.out]; try rfl, rfl⟩
 ·
  have hm := hide (show max x y = y by omega)
  have h2 : ¬ y < x := h
  go_enter Tryz.func105, Tryz.ntmps105
  go_wp2_with fail
  go_ret
  exact ⟨by rw [hm.out]; try rfl, rfl⟩
end Go.Proofs.YtpfagdmmhgcmnaaGreatDoor

namespace Go.Proofs.YtpfagdmmhgcmnaaGreatDoor
open Go.RowKit
set_option maxRecDepth 100000 in
set_option maxHeartbeats 4000000 in
theorem laws_pwInts (A : Option Addr) (c : Nat) (A' : Option Addr) (c' : Nat) (xs : List Int) (w : World) (hr : Rd intR w A xs) (hr' : Rd intR w A' xs) (hn : xs.length ≤ 1000000) :
  Calls Tryz.prog 17 #[.slice A xs.length c, .slice A' xs.length c'] w fun e w' => e = .returned (.bool true) ∧ ∃ q, w' = w.drewN q := by
 have HR := hide hr
 have HR' := hide hr'
 clear hr hr'
 go_enter Tryz.func17, Tryz.ntmps17
 go_wp2_with fail
 go_loopg [5] xs.length (fun gg s5 wr => ∃ j : Nat, j ≤ xs.length ∧ xs.length - j ≤ gg ∧ s5 = .int .i64 j ∧ Aside (∃ q, wr = w.drewN q))
 case atStart => exact ⟨0, Nat.zero_le _, by omega, rfl, (show Aside _ from ⟨0, rfl⟩)⟩
 case round =>
  obtain ⟨j, hj, hgg, rfl, HQ⟩ := hrel
  obtain ⟨q, hq⟩ := HQ.out
  have hbw : Below w.heap.size w wr := by rw [hq]; exact bdrewN (brefl _) _
  by_cases hlt : j < xs.length
  ·
   have hltz : (j : Int) < (xs.length : Int) := by omega
   obtain ⟨b, o, rfl, hlb, hc⟩ := rd_int HR.out hbw j hlt
   obtain ⟨b', o', rfl, hlb', hc'⟩ := rd_int HR'.out hbw j hlt
   generalize xs.getD j 0 = y at hc hc'
   have HQ' := hide hq
   clear hq hbw HQ
   go_wp2_with fail
   go_quiet (fail)
   go_wp2_with fail
   go_roundg (xs.length - (j + 1))
   case measure => omega
   case rel => exact ⟨j + 1, by omega, by omega, by go_num, (show Aside _ from ⟨_, by rw [HQ'.out, World.drewN_drewN]⟩)⟩
  ·
   have hltz : ¬ (j : Int) < (xs.length : Int) := by omega
   have HQ' := hide hq
   clear hq hbw HQ
   go_wp2_with fail
   go_ret
   exact ⟨rfl, q, HQ'.out⟩
end Go.Proofs.YtpfagdmmhgcmnaaGreatDoor
