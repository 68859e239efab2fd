import Derived.Test.YtpfagdmmhgcmnaaGreatDoorMixWg
import Derived.Test.YtpfagdmmhgcmnaaGreatDoorMixTx
set_option linter.unusedVariables false
set_option linter.unusedSimpArgs false
namespace Go.Proofs.YtpfagdmmhgcmnaaGreatDoor
open Go.RowKit
set_option maxRecDepth 100000 in
set_option maxHeartbeats 4000000 in
theorem impl_ColFloor2 (t : Tbl) (A : Option Addr) (c : Nat) (A' : Option Addr) (c' : Nat) (w : World) (hw : Base w) (hc : Rd colR w A t.cols) (hr : Rd rowR w A' t.rows) {k : Nat} (hy : GoodRows t k) :
  Calls Tryz.prog 37 #[.agg #[.slice A t.cols.length c, .int .i64 t.head, .int .i64 t.foot, .slice A' t.rows.length c', .int .i64 t.gap]] w fun e w' => e = .returned (.int .i64 (wideG t.gap (colLeastL 400 t))) ∧ Below w.heap.size w w' := by
 have hL := fun (W : World) (h : Below w.heap.size w W) => impl_ColLeast t A c A' c' W (hw.below h) (hc.below h) (hr.below h) hy
 have hWD : ∀ (W : World) (A2 : Option Addr) (d2 : Nat), Rd intR W A2 (colLeastL 400 t) → Calls Tryz.prog 65 #[.slice A2 (colLeastL 400 t).length d2, .int .i64 t.gap] W fun e w' => e = .returned (.int .i64 (wideG t.gap (colLeastL 400 t))) ∧ Below W.heap.size W w' := by
  intro W A2 d2 h9
  by_cases hq : tblOk t = true
  ·
   obtain ⟨n, _, h2, h3, h4, _⟩ := colLeast_ok hq hy
   exact impl_wide A2 d2 _ t.gap W h9 (fun x hx => by have := h4 x hx; omega) (by omega) (tblOk_parts hq).2.2.1
  ·
   have e0 : colLeastL 400 t = [] := by unfold colLeastL; rw [if_neg hq]
   rw [e0] at h9 ⊢
   rw [wideG_nil]
   exact impl_wide0 A2 d2 t.gap W h9
 generalize colLeastL 400 t = X at hL hWD ⊢
 generalize wideG t.gap X = wd at hWD ⊢
 clear hw hc hr hy
 go_enter Tryz.func37, Tryz.ntmps37
 have HB := hide (balloc (brefl w) (.cells #[.slice A t.cols.length c, .int .i64 t.head, .int .i64 t.foot, .slice A' t.rows.length c', .int .i64 t.gap] 26))
 go_upto_region 1 with fail
 go_region_with (first
  | (go_at_call 16; refine (hL _ ?_).mono ?_; (first | exact HB.out | exact bdrew HB.out); rintro e w2 ⟨v, rfl, hI, hb2⟩; obtain ⟨c2, f2, s2⟩ := seenBk w.heap.size (by first | (simp; omega) | simp [*]) hb2; obtain ⟨A2, d2, rfl⟩ := hI.form; have hrd := irow_rd hI)
  | (go_at_call 65; refine (hWD _ A2 d2 ?_).mono ?_; (first | exact hrd | exact hrd.below (bdrew (brefl _))); rintro e w3 ⟨rfl, hb3⟩))
 all_goals
  go_wp2_with fail
  go_ret
  refine ⟨rfl, ?_⟩
  (repeat' (with_reducible first | exact HB.out | refine bdrew ?_ | refine step ?_ (by with_reducible assumption)))
end Go.Proofs.YtpfagdmmhgcmnaaGreatDoor
