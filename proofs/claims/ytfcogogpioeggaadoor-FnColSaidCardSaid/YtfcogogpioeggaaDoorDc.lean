import Derived.Test.YtfcogogpioeggaaDoorDa
namespace Go.Proofs.YtfcogogpioeggaaDoor
open Go.RowKit
/- The draws of the laws over bytes: a reader is opened. -/
/-- Bytes that lie: a slice of n numbers below 256. -/
def BytesAt (w : World) (A : Option Addr) (n c : Nat) : Prop :=
  n ≤ 9223372036854775807 ∧ n ≤ c ∧ c ≤ 9223372036854775807 ∧ (0 < n → ∃ b o, A = some ⟨b, o, none⟩ ∧ b < w.heap.size ∧ ∀ j, j < n → ∃ k : Nat, k < 256 ∧ w.cell? ⟨b, o + j, none⟩ = some (.int .u8 k))
theorem BytesAt.below {w w' : World} {A : Option Addr} {n c : Nat} (h : BytesAt w A n c) (hb : Below w.heap.size w w') : BytesAt w' A n c := by
  obtain ⟨h1, h2, h3, h4⟩ := h
  refine ⟨h1, h2, h3, fun hn => ?_⟩
  obtain ⟨b, o, e, hlt, hc⟩ := h4 hn
  refine ⟨b, o, e, Nat.lt_of_lt_of_le hlt hb.size, fun j hj => ?_⟩
  obtain ⟨k, hk, hk2⟩ := hc j hj
  exact ⟨k, hk, keepW hb hk2⟩
/-- A reader, newly opened over them. -/
theorem rdr_new {w : World} {A : Option Addr} {n m c : Nat} (h : BytesAt w A n c) (hm : m ≤ n) (hm2 : m ≤ 2000) (T : TypeId) :
    RdrOk (w.alloc (.cells #[.slice A m c, .int .i64 0] T)) w.heap.size 0 := by
  obtain ⟨h1, h2, h3, h4⟩ := h
  refine ⟨A, m, c, 0, Nat.le_refl _, hm2, by omega, h3, cell_new _ _ _ _ _ _ rfl, cell_new _ _ _ _ _ _ rfl, fun i => by simp, fun hn => ?_⟩
  obtain ⟨b, o, e, hlt, hc⟩ := h4 (by omega)
  refine ⟨b, o, e, hlt, fun j hj => ?_⟩
  obtain ⟨k, hk, hk2⟩ := hc j (by omega)
  exact ⟨k, hk, keepW (balloc (brefl w) _) hk2⟩
def OpenPost (w : World) (e : Ending) (w' : World) : Prop :=
  ∃ R : Nat, e = .returned (.pointer (some ⟨R, 0, none⟩)) ∧ w.heap.size ≤ R ∧ RdrOk w' R 0 ∧ Below w.heap.size w w'
set_option maxRecDepth 100000 in
set_option maxHeartbeats 2000000 in
theorem open_a (A : Option Addr) (n c : Nat) (w : World) (h : BytesAt w A n c) (hn : n ≤ 2000) :
    Calls Tryd.prog 44 #[.slice A n c] w (OpenPost w) := by
  have hR := rdr_new h (Nat.le_refl _) hn 119
  have HR := hide hR
  obtain ⟨h1, h2, h3, _⟩ := h
  have hnz : ¬ (n : Int) > 2000 := by omega
  have hnz' : ¬ (2000 : Int) < (n : Int) := by omega
  clear hR
  go_enter Tryd.func44, Tryd.ntmps44
  go_wp2_with fail
  go_ret
  exact ⟨_, rfl, Nat.le_refl _, HR.out, balloc (brefl w) _⟩
set_option maxRecDepth 100000 in
set_option maxHeartbeats 2000000 in
theorem open_b (b o : Nat) (n c : Nat) (w : World) (h : BytesAt w (some ⟨b, o, none⟩) n c) (hn : ¬ n ≤ 2000) :
    Calls Tryd.prog 44 #[.slice (some ⟨b, o, none⟩) n c] w (OpenPost w) := by
  have hR := rdr_new (m := 2000) h (by omega) (Nat.le_refl _) 119
  have HR := hide hR
  obtain ⟨h1, h2, h3, _⟩ := h
  have hnz : (n : Int) > 2000 := by omega
  have hcz : (2000 : Int) ≤ (c : Int) := by omega
  have hcn : 2000 ≤ c := by omega
  clear hR
  go_enter Tryd.func44, Tryd.ntmps44
  go_wp2_with fail
  go_ret
  exact ⟨_, rfl, Nat.le_refl _, HR.out, balloc (brefl w) _⟩
theorem rdOpen (A : Option Addr) (n c : Nat) (w : World) (h : BytesAt w A n c) : Calls Tryd.prog 44 #[.slice A n c] w (OpenPost w) := by
  by_cases hn : n ≤ 2000
  · exact open_a A n c w h hn
  · obtain ⟨b, o, rfl, _, _⟩ := h.2.2.2 (by omega)
    exact open_b b o n c w h hn
end Go.Proofs.YtfcogogpioeggaaDoor
namespace Go.Proofs.YtfcogogpioeggaaDoor
open Go.RowKit
/- The draws of the laws over bytes: a text. -/
/-- A text is drawn: 30 bytes at most. -/
def TextPost (R N : Nat) (w : World) (e : Ending) (w' : World) : Prop :=
  ∃ s : ByteArray, e = .returned (.string s) ∧ s.size ≤ 30 ∧ RdrOk w' R N ∧ w.grownBy w' (some R)
def Words (w : World) (X m n : Nat) : Prop := ∀ j, j < n → ∃ z : ByteArray, z.size ≤ m ∧ w.cell? ⟨X, j, none⟩ = some (.string z)
theorem Words.grow {w w' : World} {X m n R : Nat} (h : Words w X m n) (hX : X ≠ R) (hl : X < w.heap.size) (hg : w.grownBy w' (some R)) : Words w' X m n := by
  intro j hj
  obtain ⟨z, h1, h2⟩ := h j hj
  exact ⟨z, h1, (World.cell?_of_block (hg.block X hl (fun e => by injection e with e; omega))).trans h2⟩
set_option maxRecDepth 100000 in
set_option maxHeartbeats 4000000 in
theorem rdText (R N : Nat) (w : World) (h : RdrOk w R N) (hN : N ≤ 900000) :
    Calls Tryd.prog 111 #[.pointer (some ⟨R, 0, none⟩)] w (TextPost R (N + 7) w) := by
  have hRl := h.lt
  have HR := hide h
  clear h
  go_enter Tryd.func111, Tryd.ntmps111
  go_wp2_with fail
  have hW : ∃ W : World, W = w.alloc (.cells #[.string ⟨#[97]⟩, .string ⟨#[97, 110]⟩, .string ⟨#[116, 104, 101]⟩, .string ⟨#[111, 118, 101, 114]⟩, .string ⟨#[117, 110, 100, 101, 114]⟩, .string ⟨#[109, 101, 97, 100, 111, 119]⟩, .string ⟨#[108, 105, 103, 104, 116, 104, 111, 117, 115, 101]⟩] 9) := ⟨_, rfl⟩
  obtain ⟨W, hW⟩ := hW
  have HW : Hid (w.grownBy W (some R) ∧ RdrOk W R N ∧ Words W w.heap.size 10 7 ∧ w.heap.size < W.heap.size) := by
    subst hW
    refine ⟨World.grownBy_alloc w _ _, HR.out.below (balloc (brefl w) _), fun j hj => ?_, by simp⟩
    match j, hj with
    | 0, _ => exact ⟨⟨#[97]⟩, by decide, cell_new _ _ _ _ _ _ rfl⟩
    | 1, _ => exact ⟨⟨#[97, 110]⟩, by decide, cell_new _ _ _ _ _ _ rfl⟩
    | 2, _ => exact ⟨⟨#[116, 104, 101]⟩, by decide, cell_new _ _ _ _ _ _ rfl⟩
    | 3, _ => exact ⟨⟨#[111, 118, 101, 114]⟩, by decide, cell_new _ _ _ _ _ _ rfl⟩
    | 4, _ => exact ⟨⟨#[117, 110, 100, 101, 114]⟩, by decide, cell_new _ _ _ _ _ _ rfl⟩
    | 5, _ => exact ⟨⟨#[109, 101, 97, 100, 111, 119]⟩, by decide, cell_new _ _ _ _ _ _ rfl⟩
    | 6, _ => exact ⟨⟨#[108, 105, 103, 104, 116, 104, 111, 117, 115, 101]⟩, by decide, cell_new _ _ _ _ _ _ rfl⟩
    | j + 7, hj => exact absurd hj (by omega)
  rw [← hW]
  clear hW
  refine (pick R N 6 W HW.out.2.1 (by omega) (by decide)).mono ?_
  rintro e w1 ⟨k, rfl, hk0, hk1, hR1, hg1⟩
  have hk6 := hk1 (by decide)
  have H1 := hide (And.intro hR1 hg1)
  clear hk1 hR1 hg1
  obtain ⟨n, rfl⟩ := Int.eq_ofNat_of_zero_le hk0
  go_wp2
  go_loopg [4, 5, 6] 6 (fun gg s4 s5 _ wr => ∃ (kk : Nat) (s : ByteArray), kk ≤ gg ∧ kk ≤ 6 ∧ s4 = .string s ∧ s5 = .int .i64 kk ∧ Aside (s.size ≤ 30) ∧ Aside (RdrOk wr R (N + 7 - kk)) ∧ Aside (w.grownBy wr (some R)) ∧ Aside (Words wr w.heap.size 10 7) ∧ Aside (w.heap.size < wr.heap.size))
  case atStart => exact ⟨n, ⟨#[]⟩, by omega, by omega, rfl, rfl, (show Aside _ from (by decide : (⟨#[]⟩ : ByteArray).size ≤ 30)), (show Aside _ from H1.out.1.mono (by omega)), (show Aside _ from grow_trans HW.out.1 H1.out.2), (show Aside _ from HW.out.2.2.1.grow (by omega) HW.out.2.2.2 H1.out.2), (show Aside _ from Nat.lt_of_lt_of_le HW.out.2.2.2 H1.out.2.size)⟩
  case round =>
    obtain ⟨kk, s, hg, hk6', rfl, rfl, AS, AR, AG, AW, AL⟩ := hrel
    by_cases hlt : 0 < kk
    · have hltz : (0 : Int) < (kk : Int) := by omega
      go_wp2_with fail
      refine (pick R (N + 7 - kk) 7 wr AR.out (by omega) (by decide)).mono ?_
      rintro e w2 ⟨k, rfl, hk0, hk1, hR2, hg2⟩
      have hk7 := hk1 (by decide)
      have H2 := hide (And.intro hR2 hg2)
      have HW2 := hide (AW.out.grow (by omega) AL.out hg2)
      clear hk1 hR2 hg2
      obtain ⟨i, rfl⟩ := Int.eq_ofNat_of_zero_le hk0
      obtain ⟨z, hz, hc⟩ := HW2.out i (by omega)
      have HZ := hide hz
      clear hz
      have hs30 := AS.out
      have hz10 := HZ.out
      have t1 : IntKind.i64.wrap ((s.size : Int) + 1) = (s.size : Int) + 1 := IntWalk.i64_in _ (by omega)
      have t2 : IntKind.i64.wrap ((s.size : Int) + 1 + z.size) = (s.size : Int) + 1 + z.size := IntWalk.i64_in _ (by omega)
      have t3 : IntKind.i64.wrap ((kk : Int) - 1) = (kk : Int) - 1 := IntWalk.i64_in _ (by omega)
      have c1 : ¬ 9223372036854775807 < s.size + 1 := by omega
      have c2 : ¬ 9223372036854775807 < s.size + 1 + z.size := by omega
      cases hs : s.toList.isEmpty with
      | true =>
        go_wp2_with fail
        go_roundg (kk - 1)
        case measure => omega
        case rel =>
          refine ⟨kk - 1, _, by omega, by omega, rfl, (by rw [Int.natCast_sub (by omega)]; rfl), (show Aside _ from ?_), (show Aside _ from H2.out.1.mono (by omega)), (show Aside _ from grow_trans AG.out H2.out.2), (show Aside _ from HW2.out), (show Aside _ from Nat.lt_of_lt_of_le AL.out H2.out.2.size)⟩
          exact (by omega : z.size ≤ 30)
      | false =>
        by_cases hle : (s.size : Int) + 1 + z.size ≤ 30
        · go_wp2_with fail
          go_roundg (kk - 1)
          case measure => omega
          case rel =>
            refine ⟨kk - 1, _, by omega, by omega, rfl, (by rw [Int.natCast_sub (by omega)]; rfl), (show Aside _ from ?_), (show Aside _ from H2.out.1.mono (by omega)), (show Aside _ from grow_trans AG.out H2.out.2), (show Aside _ from HW2.out), (show Aside _ from Nat.lt_of_lt_of_le AL.out H2.out.2.size)⟩
            exact (by rw [ByteArray.size_append, ByteArray.size_append, show (⟨#[32]⟩ : ByteArray).size = 1 from rfl]; omega : ((s ++ ⟨#[32]⟩) ++ z).size ≤ 30)
        · go_wp2_with fail
          go_roundg (kk - 1)
          case measure => omega
          case rel =>
            refine ⟨kk - 1, _, by omega, by omega, rfl, (by rw [Int.natCast_sub (by omega)]; rfl), (show Aside _ from ?_), (show Aside _ from H2.out.1.mono (by omega)), (show Aside _ from grow_trans AG.out H2.out.2), (show Aside _ from HW2.out), (show Aside _ from Nat.lt_of_lt_of_le AL.out H2.out.2.size)⟩
            exact hs30
    · have hltz : ¬ (0 : Int) < (kk : Int) := by omega
      go_wp2
      go_ret
      exact ⟨s, rfl, AS.out, AR.out.mono (by omega), AG.out⟩
end Go.Proofs.YtfcogogpioeggaaDoor
