import Derived.Test.YtfcogogpioeggaaDoorC
import Derived.Test.YtfcogogpioeggaaDoorN
import Derived.Test.YtfcogogpioeggaaDoorE
import Derived.Deep.RegionWith
import Derived.Deep.RegionHeld3
namespace Go.Proofs.YtfcogogpioeggaaDoor
open Go.RowKit
/- ColSaid answers as the reference: the statement's own walk. -/
theorem own_rd_cols {w : World} {base : Nat} {E : TypeId} {g n : Nat} {xs : List TCol} (h : w.ownsRow base E 2 (.slice (some ⟨g, 0, none⟩) xs.length n) xs.length (xs.flatMap colE)) : Rd colR w (some ⟨g, 0, none⟩) xs := by
  obtain ⟨A, c, e, _, hr⟩ := own_rd (enc := colE) (k := 2) (hk := fun _ => rfl) h
  injection e with e1 _ _
  rw [e1]; exact hr
theorem own_rd_rows {w : World} {base : Nat} {E F : TypeId} {g n : Nat} {xs : List TRow} (h : OwnRows w base E F (.slice (some ⟨g, 0, none⟩) xs.length n) xs) (hs : SizedR xs) : Rd rowR w (some ⟨g, 0, none⟩) xs := by
  obtain ⟨A, c, e, _, hr⟩ := h.rd (fun r hr c hc => (hs.2 r hr).2 c hc)
  injection e with e1 _ _
  rw [e1]; exact hr

set_option maxRecDepth 100000 in
set_option maxHeartbeats 4000000 in
theorem law_ColSaid (t : Tbl) (A : Option Addr) (c : Nat) (A' : Option Addr) (c' : Nat) (col : Int) (w : World) (hw : Base w) (hc : Rd colR w A t.cols) (hr : Rd rowA w A' t.rows)
    (hs : ∀ r ∈ t.rows, ∀ x ∈ r.cs, x.t.size ≤ 9223372036854775807) (hi : -9223372036854775808 ≤ col) (hi2 : col ≤ 9223372036854775807) :
    Calls Tryd.prog 3 #[.agg #[.slice A t.cols.length c, .int .i64 t.head, .int .i64 t.foot, .slice A' t.rows.length c', .int .i64 t.gap], .int .i64 col] w fun e w' => e = .returned (.bool true) ∧ Below w.heap.size w w' := by
  have hZ := fun (W : World) (h : Below w.heap.size w W) => szTable t A c A' c' 1048576 W (by omega) (by omega) hc.1 (hr.below h) hs
  go_enter Tryd.func3, Tryd.ntmps3
  go_wp2_with fail
  refine (hZ _ (balloc (brefl _) _)).mono ?_
  rintro e w1 ⟨n, rfl, hn, hb1⟩
  obtain ⟨c0, f0, s0⟩ := seenBk w.heap.size (by first | (simp; omega) | simp [*]) hb1
  have HB1 := step (balloc (brefl w) _) hb1
  rcases hn with rfl | ⟨n0, n1, hP⟩
  · go_wp2_with fail
    go_ret
    exact ⟨rfl, HB1⟩
  · have n2 : ¬ n < 0 := by omega
    obtain ⟨hP1, hP2⟩ := hP
    have hT := fun (W : World) (h : Below w.heap.size w W) => toTable t A c A' c' W (hc.below h) (hr.below h) hP1 hP2
    have HP2 := hide hP2
    clear hZ hP2
    go_wp2_with fail
    refine (hT _ HB1).mono ?_
    rintro e w2 ⟨gc, gr, rfl, hcols, hrows, hb2⟩
    obtain ⟨c0', f0', s0'⟩ := seenBk w.heap.size (by simp [*]) hb2
    have HB2 := step HB1 hb2
    have hSp := spec_ColSaid t (some ⟨gc, 0, none⟩) t.cols.length (some ⟨gr, 0, none⟩) t.rows.length col w2 (own_rd_cols hcols) (own_rd_rows hrows HP2.out)
    clear hcols hrows
    go_wp2_with fail
    refine hSp.mono ?_
    rintro e w3 ⟨rfl, hb3⟩
    obtain ⟨c1, f1, s1⟩ := seenBk w.heap.size (by simp [*]) hb3
    have HB3 := step HB2 hb3
    clear hSp
    go_wp2_with fail
    refine (hT _ (balloc HB3 _)).mono ?_
    rintro e w4 ⟨gc', gr', rfl, hcols, hrows, hb4⟩
    obtain ⟨c2, f2, s2⟩ := seenBk w.heap.size (by first | (simp; omega) | simp [*]) hb4
    obtain ⟨d2, g2, r2⟩ := seenBk w3.heap.size (by first | (simp; omega) | simp [*]) hb4
    have HB4 := step (balloc HB3 _) hb4
    have hIm := fun (W : World) (h : Below w4.heap.size w4 W) => impl_ColSaid t (some ⟨gc', 0, none⟩) t.cols.length (some ⟨gr', 0, none⟩) t.rows.length col W ((hw.below HB4).below h) ((own_rd_cols hcols).below h) ((own_rd_rows hrows HP2.out).below h) hi hi2
    go_wp2_with fail
    refine (hIm _ (balloc (brefl _) _)).mono ?_
    rintro e w5 ⟨rfl, hb5⟩
    obtain ⟨c3, f3, s3⟩ := seenBk w.heap.size (by first | (simp; omega) | simp [*]) hb5
    obtain ⟨d3, g3, r3⟩ := seenBk w3.heap.size (by first | (simp; omega) | simp [*]) hb5
    obtain ⟨x3, y3, z3⟩ := seenBk w4.heap.size (by first | (simp; omega) | simp [*]) hb5
    have HB5 := step (balloc HB4 _) hb5
    have HB45 := step (balloc (brefl w4) _) hb5
    clear hIm
    go_wp2_with fail
    refine (eqCol (colSaid t col) _).mono ?_
    rintro e w6 ⟨rfl, hb6⟩
    obtain ⟨c4, f4, s4⟩ := seenBk w.heap.size (by first | (simp; omega) | simp [*]) hb6
    obtain ⟨x4, y4, z4⟩ := seenBk w4.heap.size (by first | (simp; omega) | simp [*]) hb6
    have HB6 := step (balloc HB5 _) hb6
    have HB46 := step (balloc HB45 _) hb6
    have hEq := fun (W : World) (h : Below w4.heap.size w4 W) (gd gs : Nat) (m m' : Nat) (k1 : Rd colR W (some ⟨gd, 0, none⟩) t.cols) (k2 : Rd rowR W (some ⟨gs, 0, none⟩) t.rows) => eqTable t (some ⟨gc', 0, none⟩) (some ⟨gr', 0, none⟩) (some ⟨gd, 0, none⟩) (some ⟨gs, 0, none⟩) t.cols.length t.rows.length m m' W ((own_rd_cols hcols).below h) ((own_rd_rows hrows HP2.out).below h) k1 k2
    clear hcols hrows
    go_wp2_with fail
    go_region_with (first
      | (go_at_call 12; refine (hT _ ?_).mono ?_; (first | exact HB6 | exact bdrew HB6 | exact bdrew (bdrew HB6)); rintro e w7 ⟨gc7, gr7, rfl, hcols, hrows, hb7⟩; obtain ⟨c5, f5, s5⟩ := seenBk w.heap.size (by first | (simp; omega) | simp [*]) hb7; obtain ⟨x5, y5, z5⟩ := seenBk w4.heap.size (by first | (simp; omega) | simp [*]) hb7; have kc := own_rd_cols hcols; have kr := own_rd_rows hrows HP2.out; clear hcols hrows)
      | (go_at_call 15; refine (hEq _ ?_ gc7 gr7 _ _ ?_ ?_).mono ?_; (with_reducible first | exact step HB46 hb7 | exact step (bdrew HB46) hb7 | exact step (bdrew (bdrew HB46)) hb7 | exact bdrew (step HB46 hb7) | exact bdrew (step (bdrew HB46) hb7) | exact bdrew (bdrew (step HB46 hb7)) | exact bdrew (bdrew (step (bdrew HB46) hb7))); (with_reducible first | exact kc | exact kc.below (bdrew (brefl _)) | exact kc.below (bdrew (bdrew (brefl _)))); (with_reducible first | exact kr | exact kr.below (bdrew (brefl _)) | exact kr.below (bdrew (bdrew (brefl _)))); rintro e w8 ⟨rfl, hb8⟩))
    all_goals
      go_wp2_with fail
      go_ret
      refine ⟨rfl, ?_⟩
      (repeat' (with_reducible first | exact HB6 | refine bdrew ?_ | refine step ?_ (by with_reducible assumption)))
end Go.Proofs.YtfcogogpioeggaaDoor
