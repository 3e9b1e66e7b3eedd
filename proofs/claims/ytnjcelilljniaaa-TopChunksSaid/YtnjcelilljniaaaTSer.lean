/-
  slices.SortFunc, BinarySearchFunc, series.merge of at most one series.
-/
import Derived.Test.YtnjcelilljniaaaTRight
import Derived.Test.YtnjcelilljniaaaTLz
namespace Go.Proofs.Ytnjcelilljniaaa
open Go.RowKit

set_option maxRecDepth 100000 in
theorem bitsLen_any (x : Int) (w : World) (h0 : 0 ≤ x) (h1 : x ≤ 1000) :
    Calls Try.prog 68 #[.int .u64 x] w fun e w' => (∃ k : Int, e = .returned (.int .i64 k)) ∧ w' = w := by
  have HL := Lib.hid (bitsLen64_any x w h0 (by omega))
  have hw : IntKind.u64.wrap x = x := by rw [IntKind.wrap_u64]; omega
  go_enter Try.func68, Try.ntmps68
  go_wp2_with fail
  refine HL.out.mono ?_
  rintro e w' ⟨rfl, rfl⟩
  go_wp2_with fail
  go_ret
  exact ⟨⟨_, rfl⟩, rfl⟩

set_option maxRecDepth 100000 in
theorem insSer_any (a : Option Addr) (n c : Nat) (f : Value) (w : World) (hn : n ≤ 1) :
    Calls Try.prog 76 #[.slice a n c, .int .i64 0, .int .i64 n, f] w fun e w' => e = .returned (.tuple #[]) ∧ w = w' := by
  go_enter Try.func76, Try.ntmps76
  go_wp2_with fail
  refine wp_loop_rounds 1 ?_
  rw [rounds_succ]
  go_wp2_with fail
  go_end0
  exact ⟨rfl, rfl⟩

set_option maxRecDepth 100000 in
set_option maxHeartbeats 2000000 in
theorem pdqSer_any (a : Option Addr) (n c : Nat) (k : Int) (f : Value) (w : World) (hn : n ≤ 1) :
    Calls Try.prog 67 #[.slice a n c, .int .i64 0, .int .i64 n, .int .i64 k, f] w fun e w' => e = .returned (.tuple #[]) ∧ w = w' := by
  go_enter Try.func67, Try.ntmps67
  go_wp2_with fail
  refine wp_loop_rounds 1 ?_
  rw [rounds_succ]
  go_wp2_with fail
  refine (insSer_any a n c f _ hn).mono ?_
  rintro e w' ⟨rfl, rfl⟩
  go_wp2_with fail
  refine bodyPost_ret (results_none rfl _ _ _) rfl ?_
  exact ⟨rfl, rfl⟩

set_option maxRecDepth 100000 in
theorem sortSer_any (a : Option Addr) (n c : Nat) (f : Value) (w : World) (hn : n ≤ 1) :
    Calls Try.prog 48 #[.slice a n c, f] w fun e w' => e = .returned (.tuple #[]) ∧ w = w' := by
  have hw : IntKind.u64.wrap (n : Int) = n := by rw [IntKind.wrap_u64]; omega
  go_enter Try.func48, Try.ntmps48
  go_wp2_with fail
  refine (bitsLen_any n _ (by omega) (by omega)).mono ?_
  rintro e w' ⟨⟨k, rfl⟩, rfl⟩
  go_wp2_with fail
  refine (pdqSer_any a n c k f _ hn).mono ?_
  rintro e w' ⟨rfl, rfl⟩
  go_wp2_with fail
  go_end0
  exact ⟨rfl, rfl⟩

set_option maxRecDepth 100000 in
set_option maxHeartbeats 2000000 in
theorem binSer_any (x y f : Value) (w : World) :
    Calls Try.prog 49 #[.slice none 0 0, .agg #[x, y], f] w fun e w' => e = .returned (.tuple #[.int .i64 0, .bool false]) ∧ Below w.heap.size w w' := by
  go_enter Try.func49, Try.ntmps49
  go_wp2_with fail
  refine wp_loop_rounds 1 ?_
  rw [rounds_succ]
  go_wp2_with fail
  go_quiet (fail)
  go_wp2_with fail
  go_ret2
  exact ⟨rfl, belowN ((Below.refl _ _).alloc (Nat.le_refl _) _) _⟩

set_option maxRecDepth 100000 in
set_option maxHeartbeats 1000000 in
theorem mergeSer_any (b f : Value) (l : List Value) (base : Nat) (w : World) (hb : OwnR 74 2 encSer w base b l) (hl : l.length ≤ 1000) (h1c : ∀ u ∈ l.flatMap encSer, u.oneCell' = true) :
    Calls Try.prog 51 #[.slice none 0 0, b, f] w fun e w' => ∃ u, e = .returned u ∧ OwnR 74 2 encSer w' w.heap.size u l ∧ Below w.heap.size w w' := by
  have HB := Lib.hid hb
  obtain ⟨ao, cap, rfl, h1, h2, h3, h4, h5⟩ := hb.src
  have H3 := Lib.hid h3
  have H4 := Lib.hid h4
  have H5 := Lib.hid h5
  have H1 := Lib.hid h1c
  clear hb h3 h4 h5 h1c
  have hw : IntKind.i64.wrap (l.length : Int) = l.length := IntWalk.i64_in _ (by omega)
  obtain ⟨i0, hi, hz0, hz1, hz2⟩ := info_parts infoSer
  go_enter Try.func51, Try.ntmps51
  go_wp2_with (at_make; refine wpList_make_own _ rfl _ _ 51 rfl w.heap.size 74 i0 _ 2 Try.underlying51 hi hz0 hz1 _ _ _ l.length rfl rfl (by first | rfl | simp) (by rw [hz2]; omega) (by simp only [maxLen]; omega) (Nat.le_refl _) ?_; intro w1 hown1 hgrow1)
  refine wp_loop_rounds 1 ?_
  rw [rounds_succ]
  have HBw := Lib.hid (fun w2 (h : w1.grownBy w2 (some w.heap.size)) => ((Below.refl w.heap.size w).grown hgrow1 (Nat.le_refl _) (fun k hk => by cases hk)).grown h (hgrow1.size) (fun k hk => by cases hk; exact Nat.le_refl _))
  go_wp2_with (first
    | (at_builtin; refine wpList_append_fits_any _ rfl (.tmp 55) (.tmp 56) 51 rfl w.heap.size 74 i0 2 Try.underlying51 hi hz1 w.heap.size 0 l.length [] rfl hown2 ao l.length cap (l.flatMap encSer) rfl H3.out H4.out (cells_below H5.out (HBw.out _ hgrow2)) H1.out (by omega) ?_; intro w3 hown3 hgrow3)
    | (at_builtin; refine wpList_append_fits_any _ rfl (.tmp 53) (.tmp 54) 51 rfl w.heap.size 74 i0 2 Try.underlying51 hi hz1 w.heap.size 0 l.length [] rfl hown1 none 0 0 [] rfl rfl (fun _ => ⟨rfl, rfl⟩) (fun _ e => by cases e) (by simp) (by omega) ?_; intro w2 hown2 hgrow2))
  have hB2 := HBw.out _ hgrow2
  go_ret
  exact ⟨_, rfl, by unfold OwnR; simpa using hown3, hB2.grown hgrow3 hB2.size (fun k hk => by cases hk; exact Nat.le_refl _)⟩

end Go.Proofs.Ytnjcelilljniaaa
