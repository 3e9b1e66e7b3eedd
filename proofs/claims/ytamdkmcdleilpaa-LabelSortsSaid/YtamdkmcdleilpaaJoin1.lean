/-
  strings.Join of one text, of none.
-/
import Derived.Test.YtamdkmcdleilpaaGrow2
namespace Go.Proofs.Ytamdkmcdleilpaa
open Go.RowKit

set_option maxHeartbeats 1000000 in
set_option maxRecDepth 100000 in
theorem join_one (v : Value) (x sep : Bytes) (w : World) (hv : Strs w v [x]) :
    Calls Try.prog 56 #[v, .string (bs sep)] w fun e w' => e = .returned (.string (bs x)) ∧ w = w' := by
  have HV := Lib.hid hv
  obtain ⟨a, cap, rfl, h1, h2, -⟩ := hv
  obtain ⟨b, off, rfl, hb, hc⟩ := HV.out.at_ (i := 0) (by simp)
  simp only [Nat.add_zero] at hc
  have hc' : w.cell? ⟨b, off, none⟩ = some (.string (bs x)) := hc
  clear hc
  go_enter Try.func56, Try.ntmps56
  go_wp2_with fail
  go_ret
  exact ⟨rfl, rfl⟩
set_option maxHeartbeats 1000000 in
set_option maxRecDepth 100000 in
theorem join_none (v : Value) (sep : Bytes) (w : World) (hv : Strs w v []) :
    Calls Try.prog 56 #[v, .string (bs sep)] w fun e w' => e = .returned (.string (bs [])) ∧ w = w' := by
  obtain ⟨a, cap, rfl, h1, h2, -⟩ := hv
  go_enter Try.func56, Try.ntmps56
  go_wp2_with fail
  go_ret
  exact ⟨rfl, rfl⟩

end Go.Proofs.Ytamdkmcdleilpaa
