/-
  LabelQuotes: two texts have one quoting only if they are one; a quoted text has no line feed, and ends where it ends.
-/
import Derived.Test.YtamdkmcdleilpaaQuoted
import Derived.Test.YtamdkmcdleilpaaState
namespace Go.Proofs.Ytamdkmcdleilpaa
open Go.RowKit

set_option maxRecDepth 100000 in
set_option maxHeartbeats 2000000 in
theorem quotes_at (a b : Bytes) (w : World) (ha : a.length ≤ 1024) (hb : b.length ≤ 1024) (k : Bool) (H1 : Hid ((quoteL a == quoteL b) = k)) (H2 : Hid ((a == b) = k)) :
    Calls Try.prog 5 #[.string (bs a), .string (bs b)] w fun e w' => e = .returned (.bool true) ∧ Below w.heap.size w w' := by
  have HS := Lib.hid (St.start w)
  have HQ := Lib.hid (qd_quote a b)
  obtain ⟨l1, l2⟩ := quoteL_len a
  have HN := Lib.hid (fun i h => quoteL_lf a i h)
  have HC := Lib.hid (fun w => quote_any a w (by omega))
  have HC2 := Lib.hid (fun w => quote_any b w (by omega))
  have HC3 := Lib.hid (fun w => refQuote_any a w (by omega))
  have HC4 := Lib.hid (fun w => quoted_any (quoteL a ++ b) w (by rw [List.length_append]; omega))
  generalize quoteL a = q at *
  generalize quoteL b = r at *
  rw [HQ.out] at HC4
  have h1 := H1.out
  have h2 := H2.out
  go_enter Try.func5, Try.ntmps5
  go_wp2_with fail
  refine (HC.out _).mono ?_
  rintro e w1 ⟨rfl, hd⟩
  have HS1 := Lib.hid (HS.out.step hd)
  clear hd
  go_wp2_with fail
  refine (HC2.out _).mono ?_
  rintro e w2 ⟨rfl, hd⟩
  have HS2 := Lib.hid (HS1.out.step hd)
  clear hd
  go_wp2_with fail
  refine (HC3.out _).mono ?_
  rintro e w3 ⟨rfl, rfl⟩
  go_wp2_with fail
  go_loop [6] (fun i => ∃ k : Nat, k ≤ q.length ∧ i = .int .i64 k) (fun i => q.length - (intOf i).toNat)
  case atStart => exact ⟨0, Nat.zero_le _, rfl⟩
  case round =>
    obtain ⟨k, hk, rfl⟩ := hrel
    by_cases hlt : k < q.length
    · have hix := idx_run q k hlt
      have hne : (((byteAt q k).toNat : Int) == 10) = false := by
        rw [beq_eq_false_iff_ne]; intro e; exact HN.out k hlt (UInt8.toNat_inj.1 (by show (byteAt q k).toNat = 10; omega))
      generalize byteAt q k = c at *
      go_wp2_with fail
      go_round
      case rel => exact ⟨k + 1, by omega, by go_num⟩
      case measure => simp [intOf]; omega
    · go_wp2_with fail
      refine (HC4.out _).mono ?_
      rintro e w4 ⟨rfl, rfl⟩
      go_wp2_with fail
      go_ret
      exact ⟨rfl, HS2.out.bel⟩

set_option maxRecDepth 100000 in
theorem quotes_walk (a b : Bytes) (w : World) :
    Calls Try.prog 5 #[.string (bs a), .string (bs b)] w fun e w' => e = .returned (.bool true) ∧ Below w.heap.size w w' := by
  by_cases ha : a.length ≤ 1024
  · by_cases hb : b.length ≤ 1024
    · by_cases e : a = b
      · exact quotes_at a b w ha hb true (Lib.hid (by rw [e]; exact beq_self_eq_true _)) (Lib.hid (by rw [e]; exact beq_self_eq_true _))
      · exact quotes_at a b w ha hb false (Lib.hid (by rw [beq_eq_false_iff_ne]; exact fun h => e (quoteL_inj h))) (Lib.hid (by rw [beq_eq_false_iff_ne]; exact e))
    · go_enter Try.func5, Try.ntmps5
      go_wp2_with fail
      go_ret
      exact ⟨rfl, Below.refl _ _⟩
  · go_enter Try.func5, Try.ntmps5
    go_wp2_with fail
    go_ret
    exact ⟨rfl, Below.refl _ _⟩

end Go.Proofs.Ytamdkmcdleilpaa
