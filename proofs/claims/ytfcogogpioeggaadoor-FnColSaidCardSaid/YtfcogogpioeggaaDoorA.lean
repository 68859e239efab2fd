import Derived.Test.YtfcogogpioeggaaDoorT
namespace Go.Proofs.YtfcogogpioeggaaDoor
open Go.RowKit

theorem impl_in (n lo hi : Int) (w : World) :
    Calls Tryd.prog 59 #[.int .i64 n, .int .i64 lo, .int .i64 hi] w fun e w' => e = .returned (.bool (inB n lo hi)) ∧ w = w' := by
  unfold inB
  by_cases h1 : lo ≤ n <;> by_cases h2 : n ≤ hi
  all_goals
    go_enter Tryd.func59, Tryd.ntmps59
    go_wp2
    go_ret
    exact ⟨by simp [h1, h2], rfl⟩

theorem impl_ok (x : TCol) (w : World) :
    Calls Tryd.prog 79 #[.agg (colE x).toArray] w fun e w' => e = .returned (.bool (colOk x)) ∧ Below w.heap.size w w' := by
  obtain ⟨k, n⟩ := x
  show Calls _ _ #[.agg #[.int .i64 k, .int .i64 n]] _ _
  go_enter Tryd.func79, Tryd.ntmps79
  go_wp2_with (go_at_call 59; refine (impl_in _ _ _ _).mono ?_; rintro e w' ⟨rfl, rfl⟩)
  all_goals (go_ret; exact ⟨by simp_all [colOk], balloc (Below.refl _ _) _⟩)

theorem impl_TblOk1 (w : World) : Pred Tryd.prog 78 #[] colR agg (fun x => !colOk x) w := by
  rintro W x cs hb rfl
  show Calls _ _ #[.agg #[.int .i64 x.k, .int .i64 x.n]] _ fun e w' => e = .returned (.bool (!colOk x)) ∧ _
  go_enter Tryd.func78, Tryd.ntmps78
  go_wp2_with (go_at_call 79; refine (impl_ok x _).mono ?_; rintro e w' ⟨rfl, hb'⟩)
  go_ret
  exact ⟨rfl, step (balloc (Below.refl _ _) _) hb'⟩

theorem impl_drawn (b : Brd) (w : World) :
    Calls Tryd.prog 128 #[.agg #[.int .i64 b.s, .int .i64 b.w]] w fun e w' => e = .returned (.bool (seenB b)) ∧ Below w.heap.size w w' := by
  go_enter Tryd.func128, Tryd.ntmps128
  go_wp2_with (go_at_call 59; refine (impl_in _ _ _ _).mono ?_; rintro e w' ⟨rfl, rfl⟩)
  go_ret
  exact ⟨rfl, balloc (Below.refl _ _) _⟩

theorem impl_BrdOk (b : Brd) (w : World) :
    Calls Tryd.prog 102 #[.agg #[.int .i64 b.s, .int .i64 b.w]] w fun e w' => e = .returned (.bool (brdOk b)) ∧ Below w.heap.size w w' := by
  go_enter Tryd.func102, Tryd.ntmps102
  go_wp2_with (first | (go_at_call 59; refine (impl_in _ _ _ _).mono ?_; rintro e w' ⟨rfl, rfl⟩) | (go_at_call 128; refine (impl_drawn b _).mono ?_; rintro e w' ⟨rfl, hb⟩; obtain ⟨hc, hf, hz⟩ := seen hb))
  all_goals (go_ret; exact ⟨by simp_all [brdOk], step (balloc (Below.refl _ _) _) hb⟩)

set_option maxHeartbeats 1000000 in
theorem impl_CellOk (x : TCell) (w : World) (hs : x.t.size ≤ 1048576) (hw : Base w) :
    Calls Tryd.prog 72 #[.agg (cellE x).toArray] w fun e w' => e = .returned (.bool (cellOk x)) ∧ Below w.heap.size w w' := by
  show Calls _ _ #[.agg #[.string x.t, .int .i64 x.c, .int .i64 x.r, .int .i64 x.top.s, .int .i64 x.top.w, .int .i64 x.right.s, .int .i64 x.right.w, .int .i64 x.bot.s, .int .i64 x.bot.w, .int .i64 x.left.s, .int .i64 x.left.w]] _ _
  have hw1 := fun o => hw.below (balloc (Below.refl _ w) o)
  go_enter Tryd.func72, Tryd.ntmps72
  go_wp2_with (first | (go_at_call 59; refine (impl_in _ _ _ _).mono ?_; rintro e w' ⟨rfl, rfl⟩) | (go_at_call 55; refine (impl_TxtOk _ _ hs (hw1 _)).mono ?_; rintro e w' ⟨rfl, hb⟩; obtain ⟨H, hc, hf, hz, hn, h0⟩ := seenS (Below.refl _ _) hb) | (go_at_call 102; refine (impl_BrdOk ⟨_, _⟩ _).mono ?_; rintro e w' ⟨rfl, hb⟩; obtain ⟨H, hc, hf, hz, hn, h0⟩ := seenS H hb))
  all_goals (go_ret; exact ⟨by simp_all [cellOk], step (balloc (Below.refl _ _) _) H⟩)

theorem impl_TblOk2 (w : World) (hw : Base w) : Pred Tryd.prog 80 #[] cellR agg (fun x => !cellOk x) w := by
  rintro W x cs hb ⟨rfl, hs⟩
  have hC := fun o => impl_CellOk x (W.alloc o) hs ((hw.below hb).below (balloc (Below.refl _ _) o))
  show Calls _ _ #[.agg #[.string x.t, .int .i64 x.c, .int .i64 x.r, .int .i64 x.top.s, .int .i64 x.top.w, .int .i64 x.right.s, .int .i64 x.right.w, .int .i64 x.bot.s, .int .i64 x.bot.w, .int .i64 x.left.s, .int .i64 x.left.w]] _ fun e w' => e = .returned (.bool (!cellOk x)) ∧ _
  go_enter Tryd.func80, Tryd.ntmps80
  go_wp2_with (go_at_call 72; refine (hC _).mono ?_; rintro e w' ⟨rfl, hb'⟩)
  go_ret
  exact ⟨rfl, step (balloc (Below.refl _ _) _) hb'⟩

def rowOk (r : TRow) : Bool := decide ((r.cs.length : Int) ≤ 5) && r.cs.all cellOk
theorem not_all {α : Type} (p : α → Bool) (xs : List α) : (xs.any fun x => !p x) = !xs.all p := by
  induction xs with
  | nil => rfl
  | cons x xs ih => simp [List.any_cons, List.all_cons, ih]

theorem impl_TblOk3 (w : World) (hw : Base w) (B : Nat) (hB : B < w.heap.size) (hc : w.cell? ⟨B, 0, none⟩ = some (.func (.func 80) #[] #[])) :
    Pred Tryd.prog 82 #[.pointer (some ⟨B, 0, none⟩)] rowR agg (fun x => !rowOk x) w := by
  rintro W x cs hb ⟨v, rfl, A, c, rfl, hl, hr⟩
  have hcW : W.cell? ⟨B, 0, none⟩ = some (.func (.func 80) #[] #[]) := (hb.cell (p := ⟨B, 0, none⟩) hB).trans hc
  have hBW : B < W.heap.size := Nat.lt_of_lt_of_le hB hb.size
  have hne : B ≠ W.heap.size := by omega
  have eg : ∀ args w, (callFunc 80 args).run Tryd.prog w = .ok (.enter 80 args) w := enters_of Tryd.func80 (by kernel_rfl) rfl
  have hC := fun o => any_TblCell cellR rfl (fun x => !cellOk x) 80 #[] eg A c x.cs (W.alloc o) (impl_TblOk2 _ ((hw.below hb).below (balloc (Below.refl _ _) o))) (hr.below (balloc (Below.refl _ _) o))
  have hlen := hr.1
  have hfin : (!rowOk x) = if (5 : Int) < x.cs.length then true else !x.cs.all cellOk := by
    unfold rowOk
    by_cases h : (5 : Int) < x.cs.length
    · rw [if_pos h]; have : ¬ (x.cs.length : Int) ≤ 5 := by omega
      simp [this]
    · rw [if_neg h]; have : (x.cs.length : Int) ≤ 5 := by omega
      simp [this]
  show Calls _ _ #[.agg #[.slice A x.cs.length c, .bool x.wh], .pointer (some ⟨B, 0, none⟩)] _ fun e w' => e = .returned (.bool (!rowOk x)) ∧ _
  rw [hfin]
  clear hfin hr hw hc hb
  rw [not_all] at hC
  generalize x.cs.all cellOk = q at hC ⊢
  by_cases h : (5 : Int) < x.cs.length
  · rw [if_pos h]
    go_enter Tryd.func82, Tryd.ntmps82
    go_wp2
    go_ret
    exact ⟨rfl, balloc (Below.refl _ _) _⟩
  · rw [if_neg h]
    go_enter Tryd.func82, Tryd.ntmps82
    go_wp2_with (go_at_call 83; refine (hC _).mono ?_; rintro e w' ⟨rfl, hb'⟩)
    go_ret
    exact ⟨rfl, step (balloc (Below.refl _ _) _) hb'⟩

set_option maxHeartbeats 2000000 in
theorem impl_TblOk (t : Tbl) (A : Option Addr) (c : Nat) (A' : Option Addr) (c' : Nat) (w : World) (hw : Base w) (hcols : Rd colR w A t.cols) (hrows : Rd rowR w A' t.rows) :
    Calls Tryd.prog 40 #[.agg #[.slice A t.cols.length c, .int .i64 t.head, .int .i64 t.foot, .slice A' t.rows.length c', .int .i64 t.gap]] w fun e w' => e = .returned (.bool (tblOk t)) ∧ Below w.heap.size w w' := by
  have e1 : ∀ args w, (callFunc 78 args).run Tryd.prog w = .ok (.enter 78 args) w := enters_of Tryd.func78 (by kernel_rfl) rfl
  have e3 : ∀ args w, (callFunc 82 args).run Tryd.prog w = .ok (.enter 82 args) w := enters_of Tryd.func82 (by kernel_rfl) rfl
  have hB1 := fun o => balloc (Below.refl _ w) o
  have hC1 := fun o => any_TblCol colR rfl (fun x => !colOk x) 78 #[] e1 A c t.cols (w.alloc o) (impl_TblOk1 _) (hcols.below (hB1 o))
  have hC3 := fun (W : World) (hb : Below w.heap.size w W) (B : Nat) (hB : B < W.heap.size) (hc : W.cell? ⟨B, 0, none⟩ = some (.func (.func 80) #[] #[])) =>
    any_TblRow rowR rfl (fun x => !rowOk x) 82 #[.pointer (some ⟨B, 0, none⟩)] e3 A' c' t.rows W (impl_TblOk3 W (hw.below hb) B hB hc) (hrows.below hb)
  have l1 := hcols.1
  have l2 := hrows.1
  have hfin : tblOk t = (inB t.rows.length 1 8 && (decide ((t.cols.length : Int) ≤ 8) && (inB t.gap 0 3 && (inB t.head 0 t.rows.length && (inB t.foot 0 (t.rows.length - t.head) && (t.cols.all colOk && t.rows.all rowOk)))))) := rfl
  rw [hfin]
  clear hfin hcols hrows hw
  simp only [not_all] at hC1 hC3
  generalize t.cols.all colOk = q1 at hC1 ⊢
  generalize t.rows.all rowOk = q3 at hC3 ⊢
  have hmf := @run_mkf Tryd.prog
  by_cases h8 : (t.cols.length : Int) ≤ 8
  · have h8n : ¬ (8 : Int) < t.cols.length := by omega
    by_cases hh : inB t.head 0 t.rows.length = true
    · have hb0 : 0 ≤ t.head ∧ t.head ≤ t.rows.length := by simpa [inB] using hh
      obtain ⟨g0, g1⟩ := hb0
      go_enter Tryd.func40, Tryd.ntmps40
      go_wp2_with (first | (go_at_call 59; refine (impl_in _ _ _ _).mono ?_; rintro e w' ⟨rfl, rfl⟩) | (go_at_call 77; refine (hC1 _).mono ?_; rintro e w' ⟨rfl, hb⟩; obtain ⟨H, hc, hf, hz, hn, h0⟩ := seenS (Below.refl _ _) hb) | (go_at_call 81; refine (hC3 _ (balloc (step (balloc (Below.refl _ _) _) H) _) _ (by simp) (by simp)).mono ?_; rintro e w' ⟨rfl, hb3⟩))
      all_goals (go_ret; refine ⟨?_, by first | exact balloc (Below.refl _ _) _ | exact step (balloc (Below.refl _ _) _) H | exact step (balloc (step (balloc (Below.refl _ _) _) H) _) hb3⟩)
      all_goals first | (simp_all; done) | (rcases ‹(8 : Int) < t.cols.length ∨ _› with h | h <;> simp_all <;> (intros; omega))
    · have hh' : inB t.head 0 t.rows.length = false := by simpa using hh
      go_enter Tryd.func40, Tryd.ntmps40
      go_wp2_with (first | (go_at_call 59; refine (impl_in _ _ _ _).mono ?_; rintro e w' ⟨rfl, rfl⟩))
      all_goals (go_ret; exact ⟨by simp_all, (balloc (Below.refl _ _) _)⟩)
  · have h8' : (8 : Int) < t.cols.length := by omega
    go_enter Tryd.func40, Tryd.ntmps40
    go_wp2_with (first | (go_at_call 59; refine (impl_in _ _ _ _).mono ?_; rintro e w' ⟨rfl, rfl⟩))
    all_goals (go_ret; exact ⟨by simp_all <;> (intros; omega), (balloc (Below.refl _ _) _)⟩)
end Go.Proofs.YtfcogogpioeggaaDoor
