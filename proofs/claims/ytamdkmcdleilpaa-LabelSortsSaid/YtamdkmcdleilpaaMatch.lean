/-
  Layer 5's small functions: sets of texts, kinds, One; the law's 'large'.
-/
import Derived.Test.YtamdkmcdleilpaaLab
import Derived.BigQuiet
import Derived.Deep.RegionHeld3
import Derived.Deep.DrawnRows
import Derived.Laws.EntriesVeiled
namespace Go.Proofs.Ytamdkmcdleilpaa
open Go.RowKit

/-- A slice of texts. -/
def Strs (w : World) (v : Value) (ss : List Bytes) : Prop :=
  ∃ a cap, v = .slice a ss.length cap ∧ ss.length ≤ cap ∧ cap ≤ 9223372036854775807 ∧
    (ss ≠ [] → ∃ b off, a = some ⟨b, off, none⟩ ∧ b < w.heap.size ∧ ∀ i, i < ss.length → w.cell? ⟨b, off + i, none⟩ = some (.string (bs (ss.getD i []))))
theorem Strs.below {w w' : World} {v : Value} {ss : List Bytes} (h : Strs w v ss) (hb : Below w.heap.size w w') : Strs w' v ss := by
  obtain ⟨a, cap, hv, h1, h2, h3⟩ := h
  refine ⟨a, cap, hv, h1, h2, fun hx => ?_⟩
  obtain ⟨b, off, ha, hlt, hc⟩ := h3 hx
  exact ⟨b, off, ha, Nat.lt_of_lt_of_le hlt hb.size, fun i hi => (hb.cell (p := ⟨b, off + i, none⟩) hlt).trans (hc i hi)⟩
theorem Strs.at_ {w : World} {a : Option Addr} {n cap : Nat} {ss : List Bytes} (h : Strs w (.slice a n cap) ss) {i : Nat} (hi : i < ss.length) :
    ∃ b off, a = some ⟨b, off, none⟩ ∧ b < w.heap.size ∧ w.cell? ⟨b, off + i, none⟩ = some (.string (bs (ss.getD i []))) := by
  obtain ⟨a', cap', hv, h1, h2, h3⟩ := h
  obtain ⟨b, off, ha, hlt, hc⟩ := h3 (by intro e; subst e; simp at hi)
  simp only [Value.slice.injEq] at hv
  exact ⟨b, off, by rw [hv.1, ha], hlt, hc i hi⟩
theorem Strs.nil (w : World) (a : Option Addr) : Strs w (.slice a 0 0) [] := ⟨a, 0, rfl, Nat.le_refl _, by omega, fun h => absurd rfl h⟩

def hasS (ss : List Bytes) (x : Bytes) : Bool := ss.any (fun y => x == y)
theorem drop_str {ss : List Bytes} {k : Nat} (h : k < ss.length) : ss.drop k = ss.getD k [] :: ss.drop (k + 1) := by
  rw [List.drop_eq_getElem_cons h]; simp [List.getD, List.getElem?_eq_getElem h]

def Idx (ss : List Bytes) (x : Bytes) (w : World) (e : Ending) (w' : World) : Prop := ∃ i : Int, e = .returned (.int .i64 i) ∧ decide (0 ≤ i) = hasS ss x ∧ w = w'

set_option maxRecDepth 100000 in
set_option maxHeartbeats 400000 in
theorem indexS_any (v : Value) (ss : List Bytes) (x : Bytes) (w : World) (hv : Strs w v ss) :
    Calls Try.prog 87 #[v, .string (bs x)] w (Idx ss x w) := by
  have HV := Lib.hid hv
  obtain ⟨a, cap, rfl, h1, h2, -⟩ := hv
  go_enter Try.func87, Try.ntmps87
  go_wp2_with fail
  go_loop [8] (fun i => ∃ k : Nat, k ≤ ss.length ∧ i = .int .i64 k ∧ hasS (ss.drop k) x = hasS ss x)
    (fun i => ss.length - (intOf i).toNat)
  case atStart => exact ⟨0, Nat.zero_le _, rfl, rfl⟩
  case round =>
    obtain ⟨k, hk, rfl, hg⟩ := hrel
    have HG := Lib.hid hg
    clear hg
    by_cases hlt : k < ss.length
    · obtain ⟨b, off, rfl, hb, hc⟩ := HV.out.at_ hlt
      have HD := Lib.hid (drop_str hlt)
      generalize ss.getD k [] = n at *
      cases e : (x == n) with
      | true =>
        have HE := Lib.hid (show hasS ss x = true by rw [← HG.out, HD.out]; simp only [hasS, List.any_cons]; rw [e]; rfl)
        go_wp2_with fail
        go_ret
        exact ⟨_, rfl, by rw [HE.out]; exact decide_eq_true (by omega), rfl⟩
      | false =>
        have HE := Lib.hid (show hasS (ss.drop (k + 1)) x = hasS ss x by rw [← HG.out, HD.out]; simp only [hasS, List.any_cons]; rw [e]; rfl)
        go_wp2_with fail
        go_round
        case rel => exact ⟨k + 1, by omega, by go_num, HE.out⟩
        case measure => simp [intOf]; omega
    · have HE := Lib.hid (show hasS ss x = false by rw [← HG.out, List.drop_eq_nil_of_le (by omega)]; rfl)
      go_wp2_with fail
      go_ret
      exact ⟨_, rfl, by rw [HE.out]; rfl, rfl⟩

theorem containsS_any (v : Value) (ss : List Bytes) (x : Bytes) (w : World) (hv : Strs w v ss) :
    Calls Try.prog 75 #[v, .string (bs x)] w fun e w' => e = .returned (.bool (hasS ss x)) ∧ w = w' := by
  go_enter Try.func75, Try.ntmps75
  go_wp2_with fail
  refine (indexS_any v ss x _ hv).mono ?_
  rintro e w' ⟨i, rfl, hi, rfl⟩
  have HI := Lib.hid hi
  clear hi
  go_wp2_with fail
  go_ret
  exact ⟨by rw [← HI.out]; rfl, rfl⟩

/-! ### the kinds -/
def kindsV : Value := .agg #[.string (bs [61]), .func (.func 70) #[] #[], .string (bs [33, 61]), .func (.func 71) #[] #[],
  .string (bs [94, 61]), .func (.func 72) #[] #[], .string (bs [64, 61]), .func (.func 74) #[] #[]]

theorem kinds_any (w : World) :
    Calls Try.prog 49 #[] w fun e w' => e = .returned kindsV ∧ Below w.heap.size w w' := by
  go_enter Try.func49, Try.ntmps49
  go_wp2_with fail
  exact bodyPost_ret (v := kindsV) (by simp [results, Try.results49, go_sem, kindsV]) rfl ⟨rfl, (Below.refl _ _).alloc (Nat.le_refl _) _⟩

set_option maxRecDepth 100000 in
theorem kind1_any (k : Int) (n x y : Bytes) (u : Value) (w : World) :
    Calls Try.prog 70 #[.agg #[.int .i64 k, .string (bs n), .string (bs x), u], .string (bs y)] w fun e w' => e = .returned (.bool (y == x)) ∧ Below w.heap.size w w' := by
  go_enter Try.func70, Try.ntmps70
  go_wp2_with fail
  go_ret
  exact ⟨rfl, (Below.refl _ _).alloc (Nat.le_refl _) _⟩
set_option maxRecDepth 100000 in
theorem kind2_any (k : Int) (n x y : Bytes) (u : Value) (w : World) :
    Calls Try.prog 71 #[.agg #[.int .i64 k, .string (bs n), .string (bs x), u], .string (bs y)] w fun e w' => e = .returned (.bool (!(y == x))) ∧ Below w.heap.size w w' := by
  go_enter Try.func71, Try.ntmps71
  go_wp2_with fail
  go_ret
  exact ⟨rfl, (Below.refl _ _).alloc (Nat.le_refl _) _⟩
set_option maxRecDepth 100000 in
theorem kind3_any (k : Int) (n x y : Bytes) (u : Value) (w : World) (hx : x.length ≤ 1000000000000) (hy : y.length ≤ 1000000000000) :
    Calls Try.prog 72 #[.agg #[.int .i64 k, .string (bs n), .string (bs x), u], .string (bs y)] w fun e w' => e = .returned (.bool (isPre x y)) ∧ Below w.heap.size w w' := by
  go_enter Try.func72, Try.ntmps72
  go_wp2_with fail
  refine (hasPrefix_any y x _ hy hx).mono ?_
  rintro e w' ⟨rfl, rfl⟩
  go_wp2_with fail
  go_ret
  exact ⟨rfl, (Below.refl _ _).alloc (Nat.le_refl _) _⟩
set_option maxRecDepth 100000 in
theorem kind4_any (k : Int) (n x y : Bytes) (u : Value) (ss : List Bytes) (w : World) (hu : Strs w u ss) :
    Calls Try.prog 74 #[.agg #[.int .i64 k, .string (bs n), .string (bs x), u], .string (bs y)] w fun e w' => e = .returned (.bool (hasS ss y)) ∧ Below w.heap.size w w' := by
  go_enter Try.func74, Try.ntmps74
  go_wp2_with fail
  refine (containsS_any u ss y _ (hu.below ((Below.refl _ _).alloc (Nat.le_refl _) _))).mono ?_
  rintro e w' ⟨rfl, rfl⟩
  go_wp2_with fail
  go_ret
  exact ⟨rfl, (Below.refl _ _).alloc (Nat.le_refl _) _⟩

/-! ### One -/
def oneB (k : Int) (n x : Bytes) (ss : List Bytes) (ls : List Lab) : Bool :=
  if k = 0 then getL ls n == x else if k = 1 then !(getL ls n == x) else if k = 2 then isPre x (getL ls n) else if k = 3 then hasS ss (getL ls n) else false

theorem kindIs (s : ByteArray) (f : Fn) (w : World) : (Instr.field 58 (.agg #[.string s, .func f #[] #[]]) 1).run Try.prog w = .ok (.func f #[] #[]) w := by kernel_rfl
theorem kindAt0 (w : World) : (Instr.index 59 kindsV (.int .i64 0)).run Try.prog w = .ok (.agg #[.string (bs [61]), .func (.func 70) #[] #[]]) w := by kernel_rfl
theorem kindAt1 (w : World) : (Instr.index 59 kindsV (.int .i64 1)).run Try.prog w = .ok (.agg #[.string (bs [33, 61]), .func (.func 71) #[] #[]]) w := by kernel_rfl
theorem kindAt2 (w : World) : (Instr.index 59 kindsV (.int .i64 2)).run Try.prog w = .ok (.agg #[.string (bs [94, 61]), .func (.func 72) #[] #[]]) w := by kernel_rfl
theorem kindAt3 (w : World) : (Instr.index 59 kindsV (.int .i64 3)).run Try.prog w = .ok (.agg #[.string (bs [64, 61]), .func (.func 74) #[] #[]]) w := by kernel_rfl

theorem keep4 {b : Nat} {c0 c1 c2 c3 : Value} {w w' : World} (h : w.cell? ⟨b, 0, none⟩ = some c0 ∧ w.cell? ⟨b, 1, none⟩ = some c1 ∧ w.cell? ⟨b, 2, none⟩ = some c2 ∧ w.cell? ⟨b, 3, none⟩ = some c3) (hb : Below w.heap.size w w') :
    w'.cell? ⟨b, 0, none⟩ = some c0 ∧ w'.cell? ⟨b, 1, none⟩ = some c1 ∧ w'.cell? ⟨b, 2, none⟩ = some c2 ∧ w'.cell? ⟨b, 3, none⟩ = some c3 := by
  have hlt : b < w.heap.size := World.block_lt_of_cell? w _ h.1
  exact ⟨(hb.cell (p := ⟨b, 0, none⟩) hlt).trans h.1, (hb.cell (p := ⟨b, 1, none⟩) hlt).trans h.2.1, (hb.cell (p := ⟨b, 2, none⟩) hlt).trans h.2.2.1, (hb.cell (p := ⟨b, 3, none⟩) hlt).trans h.2.2.2⟩
theorem below_box {w w' : World} {o : Obj} (h : Below (w.alloc o).drew.heap.size (w.alloc o).drew w') : Below w.heap.size w w' :=
  ((Below.refl _ _).alloc (Nat.le_refl _) _).drew.trans (h.mono (by simp [World.drew]))
theorem below_box' {w w' : World} {o : Obj} (h : Below (w.heap.size + 1) (w.alloc o).drew w') : Below w.heap.size w w' :=
  ((Below.refl _ _).alloc (Nat.le_refl _) _).drew.trans (h.mono (by omega))

set_option maxRecDepth 100000 in
set_option maxHeartbeats 1000000 in
theorem one_bad (k : Int) (n x : Bytes) (u v : Value) (w : World) (hk : k < 0 ∨ 3 < k) :
    Calls Try.prog 17 #[.agg #[.int .i64 k, .string (bs n), .string (bs x), u], v] w fun e w' => e = .returned (.bool false) ∧ Below w.heap.size w w' := by
  rcases hk with hk | hk
  · go_enter Try.func17, Try.ntmps17
    go_wp2_with fail
    go_ret
    exact ⟨rfl, (Below.refl _ _).alloc (Nat.le_refl _) _⟩
  · have hk' : ¬ k < 0 := by omega
    go_enter Try.func17, Try.ntmps17
    go_wp2_with fail
    go_ret
    exact ⟨rfl, (Below.refl _ _).alloc (Nat.le_refl _) _⟩

set_option maxRecDepth 100000 in
set_option maxHeartbeats 1000000 in
attribute [local go_sem ↓] Go.wp_at_zero Go.wp_at_succ in
theorem one_0 (n x : Bytes) (u v : Value) (ls : List Lab) (w : World) (hv : Labels w v ls) :
    Calls Try.prog 17 #[.agg #[.int .i64 0, .string (bs n), .string (bs x), u], v] w fun e w' => e = .returned (.bool (getL ls n == x)) ∧ Below w.heap.size w w' := by
  have HV := Lib.hid hv
  clear hv
  have hi := kindAt0
  have hfi := kindIs
  go_enter Try.func17, Try.ntmps17
  go_wp2_with fail
  go_region_held3 (fun w' => w'.cell? ⟨w.heap.size, 0, none⟩ = some (.int .i64 0) ∧ w'.cell? ⟨w.heap.size, 1, none⟩ = some (.string (bs n)) ∧ w'.cell? ⟨w.heap.size, 2, none⟩ = some (.string (bs x)) ∧ w'.cell? ⟨w.heap.size, 3, none⟩ = some u)
    (first | exact keep4 (by assumption) hb3 | exact keep4 (by assumption) hb2 | exact keep4 (by assumption) hb1 | go_keep)
    (first
      | (go_at_call 49; refine (kinds_any _).mono ?_; rintro e w1 ⟨rfl, hb1⟩)
      | (go_at_call 34; refine (get_any _ ls n _ ?_).mono ?_; (exact HV.out.below (below_box hb1)); rintro e w2 ⟨rfl, hb2⟩)
      | (go_at_call 70; refine (kind1_any _ _ _ _ _ _).mono ?_; rintro e w3 ⟨rfl, hb3⟩))
  all_goals go_wp2_with fail
  all_goals go_ret
  all_goals exact ⟨rfl, (below_box hb1).trans ((hb2.mono (below_box hb1).size).trans (hb3.mono (Nat.le_trans (below_box hb1).size hb2.size)))⟩

set_option maxRecDepth 100000 in
set_option maxHeartbeats 1000000 in
attribute [local go_sem ↓] Go.wp_at_zero Go.wp_at_succ in
theorem one_1 (n x : Bytes) (u v : Value) (ls : List Lab) (w : World) (hv : Labels w v ls) :
    Calls Try.prog 17 #[.agg #[.int .i64 1, .string (bs n), .string (bs x), u], v] w fun e w' => e = .returned (.bool (!(getL ls n == x))) ∧ Below w.heap.size w w' := by
  have HV := Lib.hid hv
  clear hv
  have hi := kindAt1
  have hfi := kindIs
  go_enter Try.func17, Try.ntmps17
  go_wp2_with fail
  go_region_held3 (fun w' => w'.cell? ⟨w.heap.size, 0, none⟩ = some (.int .i64 1) ∧ w'.cell? ⟨w.heap.size, 1, none⟩ = some (.string (bs n)) ∧ w'.cell? ⟨w.heap.size, 2, none⟩ = some (.string (bs x)) ∧ w'.cell? ⟨w.heap.size, 3, none⟩ = some u)
    (first | exact keep4 (by assumption) hb3 | exact keep4 (by assumption) hb2 | exact keep4 (by assumption) hb1 | go_keep)
    (first
      | (go_at_call 49; refine (kinds_any _).mono ?_; rintro e w1 ⟨rfl, hb1⟩)
      | (go_at_call 34; refine (get_any _ ls n _ ?_).mono ?_; (exact HV.out.below (below_box hb1)); rintro e w2 ⟨rfl, hb2⟩)
      | (go_at_call 71; refine (kind2_any _ _ _ _ _ _).mono ?_; rintro e w3 ⟨rfl, hb3⟩))
  all_goals go_wp2_with fail
  all_goals go_ret
  all_goals exact ⟨rfl, (below_box hb1).trans ((hb2.mono (below_box hb1).size).trans (hb3.mono (Nat.le_trans (below_box hb1).size hb2.size)))⟩

set_option maxRecDepth 100000 in
set_option maxHeartbeats 1000000 in
attribute [local go_sem ↓] Go.wp_at_zero Go.wp_at_succ in
theorem one_2 (n x : Bytes) (u v : Value) (ls : List Lab) (w : World) (hv : Labels w v ls) (hx : x.length ≤ 1000000000000) (hy : (getL ls n).length ≤ 1000000000000) :
    Calls Try.prog 17 #[.agg #[.int .i64 2, .string (bs n), .string (bs x), u], v] w fun e w' => e = .returned (.bool (isPre x (getL ls n))) ∧ Below w.heap.size w w' := by
  have HV := Lib.hid hv
  clear hv
  have hi := kindAt2
  have hfi := kindIs
  go_enter Try.func17, Try.ntmps17
  go_wp2_with fail
  go_region_held3 (fun w' => w'.cell? ⟨w.heap.size, 0, none⟩ = some (.int .i64 2) ∧ w'.cell? ⟨w.heap.size, 1, none⟩ = some (.string (bs n)) ∧ w'.cell? ⟨w.heap.size, 2, none⟩ = some (.string (bs x)) ∧ w'.cell? ⟨w.heap.size, 3, none⟩ = some u)
    (first | exact keep4 (by assumption) hb3 | exact keep4 (by assumption) hb2 | exact keep4 (by assumption) hb1 | go_keep)
    (first
      | (go_at_call 49; refine (kinds_any _).mono ?_; rintro e w1 ⟨rfl, hb1⟩)
      | (go_at_call 34; refine (get_any _ ls n _ ?_).mono ?_; (exact HV.out.below (below_box hb1)); rintro e w2 ⟨rfl, hb2⟩)
      | (go_at_call 72; refine (kind3_any _ _ _ _ _ _ hx hy).mono ?_; rintro e w3 ⟨rfl, hb3⟩))
  all_goals go_wp2_with fail
  all_goals go_ret
  all_goals exact ⟨rfl, (below_box hb1).trans ((hb2.mono (below_box hb1).size).trans (hb3.mono (Nat.le_trans (below_box hb1).size hb2.size)))⟩

set_option maxRecDepth 100000 in
set_option maxHeartbeats 1000000 in
attribute [local go_sem ↓] Go.wp_at_zero Go.wp_at_succ in
theorem one_3 (n x : Bytes) (u v : Value) (ls : List Lab) (w : World) (hv : Labels w v ls) (ss : List Bytes) (hu : Strs w u ss) :
    Calls Try.prog 17 #[.agg #[.int .i64 3, .string (bs n), .string (bs x), u], v] w fun e w' => e = .returned (.bool (hasS ss (getL ls n))) ∧ Below w.heap.size w w' := by
  have HV := Lib.hid hv
  have HU := Lib.hid hu
  clear hu
  clear hv
  have hi := kindAt3
  have hfi := kindIs
  go_enter Try.func17, Try.ntmps17
  go_wp2_with fail
  go_region_held3 (fun w' => w'.cell? ⟨w.heap.size, 0, none⟩ = some (.int .i64 3) ∧ w'.cell? ⟨w.heap.size, 1, none⟩ = some (.string (bs n)) ∧ w'.cell? ⟨w.heap.size, 2, none⟩ = some (.string (bs x)) ∧ w'.cell? ⟨w.heap.size, 3, none⟩ = some u)
    (first | exact keep4 (by assumption) hb3 | exact keep4 (by assumption) hb2 | exact keep4 (by assumption) hb1 | go_keep)
    (first
      | (go_at_call 49; refine (kinds_any _).mono ?_; rintro e w1 ⟨rfl, hb1⟩)
      | (go_at_call 34; refine (get_any _ ls n _ ?_).mono ?_; (exact HV.out.below (below_box hb1)); rintro e w2 ⟨rfl, hb2⟩)
      | (go_at_call 74; refine (kind4_any _ _ _ _ _ ss _ ?_).mono ?_; (exact HU.out.below ((below_box hb1).trans (hb2.mono (below_box hb1).size))); rintro e w3 ⟨rfl, hb3⟩))
  all_goals go_wp2_with fail
  all_goals go_ret
  all_goals exact ⟨rfl, (below_box hb1).trans ((hb2.mono (below_box hb1).size).trans (hb3.mono (Nat.le_trans (below_box hb1).size hb2.size)))⟩


theorem one_any (k : Int) (n x : Bytes) (u v : Value) (ss : List Bytes) (ls : List Lab) (w : World) (hv : Labels w v ls) (hu : Strs w u ss) (hx : x.length ≤ 1000000000000) (hy : (getL ls n).length ≤ 1000000000000) :
    Calls Try.prog 17 #[.agg #[.int .i64 k, .string (bs n), .string (bs x), u], v] w fun e w' => e = .returned (.bool (oneB k n x ss ls)) ∧ Below w.heap.size w w' := by
  by_cases h : k < 0 ∨ 3 < k
  · have e : oneB k n x ss ls = false := by unfold oneB; rw [if_neg (by omega), if_neg (by omega), if_neg (by omega), if_neg (by omega)]
    rw [e]; exact one_bad k n x u v w h
  · rcases (show k = 0 ∨ k = 1 ∨ k = 2 ∨ k = 3 by omega) with rfl | rfl | rfl | rfl
    · exact one_0 n x u v ls w hv
    · exact one_1 n x u v ls w hv
    · exact one_2 n x u v ls w hv hx hy
    · exact one_3 n x u v ls w hv ss hu

end Go.Proofs.Ytamdkmcdleilpaa
