/-
  Strings as lists of bytes, in a walk: 'bs l' is the string whose bytes are l.
-/
import Derived.Test.YtamdkmcdleilpaaState
import Derived.WalkSpells
import Derived.WalkLawsBesides
import Derived.Deep.DeepFit
namespace Go.Proofs.Ytamdkmcdleilpaa
open Go.RowKit

abbrev Bytes := List UInt8

def bs (l : Bytes) : ByteArray := ⟨l.toArray⟩
def byteAt (l : Bytes) (k : Nat) : UInt8 := l.getD k 0

theorem bs_data (l : Bytes) : (bs l).data = l.toArray := rfl
@[go_sem] theorem bs_toList (l : Bytes) : (bs l).toList = l := by rw [ByteArray.toList_eq]; rfl
@[go_sem] theorem bs_size (l : Bytes) : (bs l).size = l.length := rfl
@[go_sem] theorem bs_append (a b : Bytes) : bs a ++ bs b = bs (a ++ b) := ByteArray.mk_append_mk a b
@[go_sem] theorem bs_extract (l : Bytes) (a b : Nat) : (bs l).extract a b = bs ((l.drop a).take (b - a)) := ByteArray.extract_mk l a b
@[go_sem] theorem bs_getElem (l : Bytes) (k : Nat) (h : k < (bs l).size) : (bs l)[k]'h = byteAt l k := by
  have h' : k < l.length := h
  show l.toArray[k] = _
  simp [byteAt, List.getD, List.getElem?_eq_getElem h']
theorem bs_of (s : ByteArray) : s = bs s.data.toList := by
  cases s with
  | mk d => simp [bs]
theorem bs_ex (s : ByteArray) : ∃ l, s = bs l := ⟨_, bs_of s⟩
theorem bs_inj {a b : Bytes} (h : bs a = bs b) : a = b := by rw [← bs_toList a, h, bs_toList]
@[go_sem] theorem bs_lit (l : Bytes) : ByteArray.mk l.toArray = bs l := rfl

theorem byteAt_lt {l : Bytes} {k : Nat} (h : k < l.length) : byteAt l k = l[k] := by simp [byteAt, List.getD, List.getElem?_eq_getElem h]
theorem drop_byte {l : Bytes} {k : Nat} (h : k < l.length) : l.drop k = byteAt l k :: l.drop (k + 1) := by
  rw [List.drop_eq_getElem_cons h, byteAt_lt h]
theorem take_byte {l : Bytes} {k : Nat} (h : k < l.length) : l.take (k + 1) = l.take k ++ [byteAt l k] := by
  rw [List.take_add_one, List.getElem?_eq_getElem h, byteAt_lt h]; rfl

/-- Does s begin with p? -/
def isPre (p s : Bytes) : Bool := s.take p.length == p

theorem isPre_no {p s : Bytes} (h : ¬ p.length ≤ s.length) : isPre p s = false := by
  unfold isPre
  rw [List.take_of_length_le (by omega), beq_eq_false_iff_ne]
  intro e; rw [e] at h; omega

set_option maxRecDepth 100000 in
theorem hasPrefixL_any (s p : Bytes) (w : World) (hs : s.length ≤ 1000000000000) (hp : p.length ≤ 1000000000000) :
    Calls Try.prog 86 #[.string (bs s), .string (bs p)] w fun e w' => e = .returned (.bool (isPre p s)) ∧ w = w' := by
  by_cases h : p.length ≤ s.length
  · go_enter Try.func86, Try.ntmps86
    go_wp2_with fail
    go_ret
    exact ⟨rfl, rfl⟩
  · go_enter Try.func86, Try.ntmps86
    go_wp2_with fail
    go_ret
    exact ⟨by rw [isPre_no h]; rfl, rfl⟩
theorem hasPrefix_any (s p : Bytes) (w : World) (hs : s.length ≤ 1000000000000) (hp : p.length ≤ 1000000000000) :
    Calls Try.prog 73 #[.string (bs s), .string (bs p)] w fun e w' => e = .returned (.bool (isPre p s)) ∧ w = w' := by
  go_enter Try.func73, Try.ntmps73
  go_wp2_with fail
  refine (hasPrefixL_any s p _ hs hp).mono ?_
  rintro e w' ⟨rfl, rfl⟩
  go_wp2_with fail
  go_ret
  exact ⟨rfl, rfl⟩
end Go.Proofs.Ytamdkmcdleilpaa
