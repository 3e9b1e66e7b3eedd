/-
  Two builders in one call.
-/
import Derived.Test.YtnjcelilljniaaaTDec
namespace Go.Proofs.Ytnjcelilljniaaa
open Go.RowKit

/-- Two builders, in blocks h and h + 1. -/
def TwoB (h : Nat) (l1 l2 : Bytes) (w : World) : Prop :=
  ∃ v1 v2, Bw 65 [] h v1 l1 w ∧ Bw 65 [] (h + 1) v2 l2 w ∧ (v1.ownBlock = none ∨ v1.ownBlock ≠ v2.ownBlock) ∧ (l1 = [] → v1.ownBlock = none) ∧ (l2 = [] → v2.ownBlock = none)
theorem TwoB.start (w : World) : TwoB w.heap.size [] [] ((w.alloc (.cells #[.pointer none, .slice none 0 0] 65)).alloc (.cells #[.pointer none, .slice none 0 0] 65)) := by
  have h1 : ((w.alloc (.cells #[.pointer none, .slice none 0 0] 65)).alloc (.cells #[.pointer none, .slice none 0 0] 65)).heap[w.heap.size]? = some (.cells #[.pointer none, .slice none 0 0] 65 (0, 0)) :=
    (Below.heap_alloc _ _ _ (by simp)).trans (heap_alloc_new w _)
  have h2 := heap_alloc_new (w.alloc (.cells #[.pointer none, .slice none 0 0] 65)) (.cells #[.pointer none, .slice none 0 0] 65)
  rw [World.size_alloc] at h2
  exact ⟨.slice none 0 0, .slice none 0 0, ⟨.pointer none, .inl rfl, h1, World.ownsRow_nil _ _ _ _⟩, ⟨.pointer none, .inl rfl, h2, World.ownsRow_nil _ _ _ _⟩, .inl rfl, fun _ => rfl, fun _ => rfl⟩
theorem TwoB.below {h : Nat} {l1 l2 : Bytes} {w w' : World} (ht : TwoB h l1 l2 w) (hb : Below w.heap.size w w') : TwoB h l1 l2 w' := by
  obtain ⟨v1, v2, a, b, c, d⟩ := ht
  exact ⟨v1, v2, a.below hb, b.below hb, c, d⟩
theorem TwoB.lt {h : Nat} {l1 l2 : Bytes} {w : World} (ht : TwoB h l1 l2 w) : h + 1 < w.heap.size := by
  obtain ⟨v1, v2, a, b, c, d⟩ := ht
  exact b.lt
theorem own_new {v v' u : Value} {w : World} {b : Nat} {l : Bytes} {T : TypeId} {xs : List Value} (hu : Bw T xs b u l w) (hat : v'.ownBlock = v.ownBlock ∨ ∃ g, v'.ownBlock = some g ∧ w.heap.size ≤ g) (hd : u.ownBlock = none ∨ u.ownBlock ≠ v.ownBlock) :
    u.ownBlock = none ∨ u.ownBlock ≠ v'.ownBlock := by
  rcases hat with e | ⟨g, e, hg⟩
  · rw [e]; exact hd
  · rw [e]
    cases hk : u.ownBlock with
    | none => exact .inl rfl
    | some k => exact .inr (by intro e'; have := (hu.rowLt hk).2; simp at e'; omega)
theorem sym_d {a b : Option Nat} (h : a = none ∨ a ≠ b) : b = none ∨ b ≠ a := by
  rcases h with h | h
  · cases b with
    | none => exact .inl rfl
    | some k => exact .inr (by rw [h]; intro e; cases e)
  · exact .inr (fun e => h e.symm)

theorem write1_any {h : Nat} {l1 l2 : Bytes} {w : World} (m : Bytes) (ht : TwoB h l1 l2 w) (hlen : l1.length + m.length ≤ 1000000000000) (hm : m ≠ []) :
    Calls Try.prog 28 #[.pointer (some ⟨h, 0, none⟩), .string (bs m)] w fun e w' => e = .returned (.tuple #[.int .i64 m.length, .nilIface]) ∧ TwoB h (l1 ++ m) l2 w' ∧ Below h w w' := by
  obtain ⟨v1, v2, a, b, c, d1, d2⟩ := ht
  refine (writeString_any m a tokBuilder hlen).mono ?_
  rintro e w' ⟨rfl, v', a', hw⟩
  have hc2 := sym_d c
  refine ⟨rfl, ⟨v', v2, a', b.keep tokBuilder a tokBuilder hw (by omega) hc2, sym_d (own_new b hw.at_ hc2), ?_, d2⟩, a.wrBelow hw (Nat.le_refl _)⟩
  intro e; simp [hm] at e
theorem write2_any {h : Nat} {l1 l2 : Bytes} {w : World} (m : Bytes) (ht : TwoB h l1 l2 w) (hlen : l2.length + m.length ≤ 1000000000000) (hm : m ≠ []) :
    Calls Try.prog 28 #[.pointer (some ⟨h + 1, 0, none⟩), .string (bs m)] w fun e w' => e = .returned (.tuple #[.int .i64 m.length, .nilIface]) ∧ TwoB h l1 (l2 ++ m) w' ∧ Below h w w' := by
  obtain ⟨v1, v2, a, b, c, d1, d2⟩ := ht
  refine (writeString_any m b tokBuilder hlen).mono ?_
  rintro e w' ⟨rfl, v', b', hw⟩
  refine ⟨rfl, ⟨v1, v', a.keep tokBuilder b tokBuilder hw (by omega) c, b', own_new a hw.at_ c, d1, ?_⟩, (b.wrBelow hw (Nat.le_refl _)).mono (by omega)⟩
  intro e; simp [hm] at e
theorem string1_any {h : Nat} {l1 l2 : Bytes} {w : World} (ht : TwoB h l1 l2 w) :
    Calls Try.prog 27 #[.pointer (some ⟨h, 0, none⟩)] w fun e w' => e = .returned (.string (bs l1)) ∧ Below h w w' ∧ ∃ v2, Bw 65 [] (h + 1) v2 l2 w' ∧ (l2 = [] → v2.ownBlock = none) := by
  obtain ⟨v1, v2, a, b, c, d1, d2⟩ := ht
  refine (builderString_both a tokBuilder d1).mono ?_
  rintro e w' ⟨rfl, hw, -⟩
  exact ⟨rfl, a.wrBelow hw (Nat.le_refl _), v2, b.keep tokBuilder a tokBuilder hw (by omega) (sym_d c), d2⟩
theorem string2_any {h : Nat} {l2 : Bytes} {v2 : Value} {w : World} (b : Bw 65 [] (h + 1) v2 l2 w) (d2 : l2 = [] → v2.ownBlock = none) :
    Calls Try.prog 27 #[.pointer (some ⟨h + 1, 0, none⟩)] w fun e w' => e = .returned (.string (bs l2)) ∧ Below h w w' := by
  refine (builderString_both b tokBuilder d2).mono ?_
  rintro e w' ⟨rfl, hw, -⟩
  exact ⟨rfl, (b.wrBelow hw (Nat.le_refl _)).mono (by omega)⟩
theorem len2_any {h : Nat} {l1 l2 : Bytes} {w : World} (ht : TwoB h l1 l2 w) :
    Calls Try.prog 32 #[.pointer (some ⟨h + 1, 0, none⟩)] w fun e w' => e = .returned (.int .i64 l2.length) ∧ w = w' := by
  obtain ⟨v1, v2, a, b, c, d1, d2⟩ := ht
  exact builderLen_any b

end Go.Proofs.Ytnjcelilljniaaa

/-
  major.Encode of no series, or of one.
-/
namespace Go.Proofs.Ytnjcelilljniaaa
open Go.RowKit

noncomputable def majH (n st : Nat) (v : Int) : Bytes := uintL 1 ++ (uintL 7 ++ uintL (encL n st v).length)
noncomputable def majL (n st : Nat) (v : Int) : Bytes := if n = 0 then uintL 0 else majH n st v ++ encL n st v
/-- The series of the samples: none, if there are none. -/
def OneSer (w : World) (u : Value) (n st : Nat) (v : Int) : Prop :=
  if n = 0 then ∃ a c, u = .slice a 0 c
  else ∃ g off c vs, u = .slice (some ⟨g, off, none⟩) 1 c ∧ g < w.heap.size ∧ w.cell? ⟨g, off, none⟩ = some (.int .i64 7) ∧ w.cell? ⟨g, off + 1, none⟩ = some vs ∧ Samples w vs (smpL n st v)
theorem uintL_ne (n : Nat) : uintL n ≠ [] := by
  intro h; have := uintL_pos n; rw [h] at this; simp at this
theorem encL_ne (n st : Nat) (v : Int) : encL n st v ≠ [] := by
  by_cases h : n = 0
  · subst h; exact uintL_ne 0
  · rw [encL_parts n st v h]
    intro e
    have := congrArg List.length e
    rw [List.length_append] at this
    have h2 := uintL_pos n
    rw [List.length_nil] at this
    omega

theorem ser_x (w2 : World) (x : Value) : (w2.alloc (.cells #[.int .i64 7, x] 74)).cell? ⟨w2.heap.size, 0, none⟩ = some (.int .i64 7) ∧ (w2.alloc (.cells #[.int .i64 7, x] 74)).cell? ⟨w2.heap.size, 1, none⟩ = some x := by
  have h := heap_alloc_new w2 (.cells #[.int .i64 7, x] 74)
  exact ⟨by rw [Lib.cell_of_heap h]; rfl, by rw [Lib.cell_of_heap h]; rfl⟩

set_option maxHeartbeats 1000000 in
set_option maxRecDepth 100000 in
theorem majEnc_any (u : Value) (n st : Nat) (v : Int) (w : World) (hu : OneSer w u n st v) (hn : n ≤ 90) (hst1 : 1 ≤ st) (hst : st ≤ 300) (hv0 : -9223372036854775808 ≤ v) (hv1 : v ≤ 9223372036854775807) :
    Calls Try.prog 16 #[u] w fun e w' => e = .returned (.tuple #[.string (bs (majL n st v)), .int .i64 0]) ∧ Below w.heap.size w w' := by
  have HT0 := Lib.hid (TwoB.start w)
  have HB0 := Lib.hid (show Below w.heap.size w ((w.alloc (.cells #[.pointer none, .slice none 0 0] 65)).alloc (.cells #[.pointer none, .slice none 0 0] 65)) from ((Below.refl _ _).alloc (Nat.le_refl _) _).alloc (by simp) _)
  by_cases h0 : n = 0
  · subst h0
    have hm : majL 0 st v = uintL 0 := rfl
    rw [hm]
    unfold OneSer at hu
    rw [if_pos rfl] at hu
    obtain ⟨a, c, rfl⟩ := hu
    have HU := Lib.hid (uint_any 0 (w := ((w.alloc (.cells #[.pointer none, .slice none 0 0] 65)).alloc (.cells #[.pointer none, .slice none 0 0] 65))) (by omega))
    have hu0 := uintL_len10 (n := 0) (by omega)
    have hne := uintL_ne 0
    generalize uintL 0 = U at *
    clear hm
    go_enter Try.func16, Try.ntmps16
    go_wp2_with fail
    refine HU.out.mono ?_
    rintro e w1 ⟨rfl, b1⟩
    have HT1 := Lib.hid (HT0.out.below b1)
    have HB1 := Lib.hid (HB0.out.trans (b1.mono HB0.out.size))
    clear b1
    go_wp2_with fail
    refine (write1_any U HT1.out (by simp; omega) hne).mono ?_
    rintro e w2 ⟨rfl, t2, b2⟩
    have HT2 := Lib.hid t2
    have HB2 := Lib.hid (HB1.out.trans b2)
    clear t2 b2
    go_wp2_with fail
    refine wp_loop_rounds 1 ?_
    rw [rounds_succ]
    go_wp2_with fail
    refine (string1_any HT2.out).mono ?_
    rintro e w3 ⟨rfl, b3, v2, q2, d2⟩
    have HB3 := Lib.hid (HB2.out.trans b3)
    have HS2 := Lib.hid (string2_any q2 d2)
    clear b3 q2 d2
    go_wp2_with fail
    refine HS2.out.mono ?_
    rintro e w4 ⟨rfl, b4⟩
    have HB4 := Lib.hid (HB3.out.trans b4)
    clear b4
    go_wp2_with fail
    go_ret2
    exact ⟨by simp, HB4.out⟩
  · have hm : majL n st v = majH n st v ++ encL n st v := by unfold majL; rw [if_neg h0]
    unfold OneSer at hu
    rw [if_neg h0] at hu
    obtain ⟨g, off, c, vs, rfl, hgl, c0, c1, hvs⟩ := hu
    have HV := Lib.hid hvs
    obtain ⟨va, vc, rfl, hvc⟩ : ∃ va vc, vs = .slice va n vc ∧ n ≤ vc := by
      obtain ⟨a, c, h1, h2, _⟩ := hvs
      rw [smpL_len] at h1 h2
      exact ⟨a, c, h1, h2⟩
    clear hvs
    have HU := Lib.hid (uint_any 1 (w := ((w.alloc (.cells #[.pointer none, .slice none 0 0] 65)).alloc (.cells #[.pointer none, .slice none 0 0] 65))) (by omega))
    have HM := Lib.hid (show majL n st v = ([] ++ uintL 1 ++ (uintL 7 ++ uintL (encL n st v).length)) ++ ([] ++ encL n st v) by rw [hm]; unfold majH; simp)
    have hel := encL_len n st v hn hst hv0 hv1
    have hene := encL_ne n st v
    have hu1 := uintL_len10 (n := 1) (by omega)
    have hu7 := uintL_len10 (n := 7) (by omega)
    have hue := uintL_len10 (n := (encL n st v).length) (by omega)
    have hn1 := uintL_ne 1
    have hn7 : uintL 7 ++ uintL (encL n st v).length ≠ [] := fun e => uintL_ne 7 (List.append_eq_nil_iff.1 e).1
    have HE := Lib.hid (fun w' h => enc_any (.slice va n vc) n st v w' h hn hst1 hst hv0 hv1)
    have HUL := Lib.hid (fun w' => uint_any (encL n st v).length w' (by omega))
    have HU7 := Lib.hid (fun w' => uint_any 7 w' (by omega))
    rw [HM.out]
    clear hm HM
    generalize uintL (encL n st v).length = UE at *
    generalize uintL 1 = U1 at *
    generalize uintL 7 = U7 at *
    generalize encL n st v = C at *
    go_enter Try.func16, Try.ntmps16
    go_wp2_with fail
    refine HU.out.mono ?_
    rintro e w1 ⟨rfl, b1⟩
    have HT1 := Lib.hid (HT0.out.below b1)
    have HB1 := Lib.hid (HB0.out.trans (b1.mono HB0.out.size))
    clear b1
    go_wp2_with fail
    refine (write1_any U1 HT1.out (by simp; omega) hn1).mono ?_
    rintro e w2 ⟨rfl, t2, b2⟩
    have HT2 := Lib.hid t2
    have HB2 := Lib.hid (HB1.out.trans b2)
    clear t2 b2
    have g0 := (HB2.out.cell (p := ⟨g, off, none⟩) hgl).trans c0
    have g1 := (HB2.out.cell (p := ⟨g, off + 1, none⟩) hgl).trans c1
    go_wp2_with fail
    refine wp_loop_rounds 2 ?_
    rw [rounds_succ]
    go_wp2_with fail
    have hb2x : Below w2.heap.size w2 (w2.alloc (.cells #[.int .i64 7, .slice va n vc] 74)) := (Below.refl _ _).alloc (Nat.le_refl _) _
    have HX := Lib.hid (ser_x w2 (.slice va n vc))
    refine (HE.out _ ((HV.out.below HB2.out).below hb2x)).mono ?_
    rintro e w3 ⟨rfl, b3⟩
    have HT3 := Lib.hid ((HT2.out.below hb2x).below b3)
    have HB3 := Lib.hid ((HB2.out.trans (hb2x.mono HB2.out.size)).trans (b3.mono (by have := HB2.out.size; simp; omega)))
    have hx3 : w2.heap.size < w3.heap.size := Nat.lt_of_lt_of_le (by simp) b3.size
    have x0 := (b3.cell (p := ⟨w2.heap.size, 0, none⟩) (by simp)).trans HX.out.1
    have x1 := (b3.cell (p := ⟨w2.heap.size, 1, none⟩) (by simp)).trans HX.out.2
    clear b3 hb2x
    obtain ⟨K, hK⟩ : ∃ K, K = w2.heap.size := ⟨_, rfl⟩
    rw [← hK] at hx3 x0 x1 ⊢
    clear hK HX
    have hn0 : ((n : Int) == 0) = false := by rw [beq_eq_false_iff_ne]; omega
    have hn0' : ¬ (n : Int) = 0 := by omega
    go_wp2_with fail
    refine (HU7.out _).mono ?_
    rintro e w4 ⟨rfl, b4⟩
    have HT4 := Lib.hid (HT3.out.below b4)
    have HB4 := Lib.hid (HB3.out.trans (b4.mono HB3.out.size))
    clear b4
    go_wp2_with fail
    refine (HUL.out _).mono ?_
    rintro e w5 ⟨rfl, b5⟩
    have HT5 := Lib.hid (HT4.out.below b5)
    have HB5 := Lib.hid (HB4.out.trans (b5.mono HB4.out.size))
    clear b5
    go_wp2_with fail
    refine (write1_any (U7 ++ UE) HT5.out (by simp; omega) hn7).mono ?_
    rintro e w6 ⟨rfl, t6, b6⟩
    have HT6 := Lib.hid t6
    have HB6 := Lib.hid (HB5.out.trans b6)
    clear t6 b6
    go_wp2_with fail
    refine (write2_any C HT6.out (by simp; omega) hene).mono ?_
    rintro e w7 ⟨rfl, t7, b7⟩
    have HT7 := Lib.hid t7
    have HB7 := Lib.hid (HB6.out.trans b7)
    clear t7 b7
    go_wp2_with fail
    rw [rounds_succ]
    go_wp2_with fail
    refine (string1_any HT7.out).mono ?_
    rintro e w8 ⟨rfl, b8, v2, q2, d2⟩
    have HB8 := Lib.hid (HB7.out.trans b8)
    have HS2 := Lib.hid (string2_any q2 d2)
    clear b8 q2 d2
    go_wp2_with fail
    refine HS2.out.mono ?_
    rintro e w9 ⟨rfl, b9⟩
    have HB9 := Lib.hid (HB8.out.trans b9)
    clear b9
    go_wp2_with fail
    go_ret2
    exact ⟨by simp, HB9.out⟩

end Go.Proofs.Ytnjcelilljniaaa

/-
  major.table of what Encode says.
-/
namespace Go.Proofs.Ytnjcelilljniaaa
open Go.RowKit

/-- The table's rows: none, or one. -/
def Ent (w : World) (u : Value) (n f t : Nat) : Prop :=
  if n = 0 then u = .slice none 0 0
  else ∃ g cap, u = .slice (some ⟨g, 0, none⟩) 1 cap ∧ 1 ≤ cap ∧ cap ≤ 9223372036854775807 ∧ g < w.heap.size ∧ w.cell? ⟨g, 0, none⟩ = some (.int .i64 7) ∧ w.cell? ⟨g, 1, none⟩ = some (.int .i64 f) ∧ w.cell? ⟨g, 2, none⟩ = some (.int .i64 t)
theorem infoEnt : (Try.prog.info? 112).map (fun i => (i.zero, i.size, i.bytes)) = some (some (.agg #[.int .i64 0, .int .i64 0, .int .i64 0]), 3, 24) := by kernel_rfl
/-- A row of one entry that stands alone. -/
def EB (w : World) (g : Nat) (a b c : Nat) : Prop := ∃ cur : Array Value, w.heap[g]? = some (.cells cur 112 (0, 0)) ∧ cur[0]? = some (.int .i64 a) ∧ cur[1]? = some (.int .i64 b) ∧ cur[2]? = some (.int .i64 c)
theorem below_any {w w' : World} {o : Obj} {n : Nat} (h : Below ((w.alloc o).drewN n).heap.size ((w.alloc o).drewN n) w') : Below w.heap.size w w' :=
  ((Below.refl _ _).alloc (Nat.le_refl _) _).trans (Below.trans (b := (w.alloc o).drewN n) ⟨rfl, rfl, rfl, Nat.le_refl _, fun _ _ => rfl⟩ (h.mono (by show w.heap.size ≤ (w.alloc o).heap.size; simp)))
theorem heap_set {w : World} {b j : Nat} {v : Value} {cs : Array Value} {t : TypeId} (h : w.heap[b]? = some (.cells cs t (0, 0))) : (w.setCell ⟨b, j, none⟩ v).heap[b]? = some (.cells (cs.setIfInBounds j v) t (0, 0)) := by
  obtain ⟨hlt, hk⟩ := Array.getElem?_eq_some_iff.1 h
  show (w.heap.modify b _)[b]? = _
  rw [Array.getElem?_eq_getElem (by rw [Array.size_modify]; exact hlt), Array.getElem_modify_self, hk]
  rfl
theorem heap_other {w : World} {b c j : Nat} {v : Value} (hne : c ≠ b) : (w.setCell ⟨b, j, none⟩ v).heap[c]? = w.heap[c]? := Below.heap_setCell _ _ _ c hne
theorem EB.cells {w : World} {g a b c : Nat} (h : EB w g a b c) : w.cell? ⟨g, 0, none⟩ = some (.int .i64 a) ∧ w.cell? ⟨g, 1, none⟩ = some (.int .i64 b) ∧ w.cell? ⟨g, 2, none⟩ = some (.int .i64 c) ∧ w.frozen? ⟨g, 1, none⟩ = false ∧ w.frozen? ⟨g, 2, none⟩ = false ∧ g < w.heap.size := by
  obtain ⟨cur, h0, h1, h2, h3⟩ := h
  refine ⟨?_, ?_, ?_, by simp [World.frozen?, h0], by simp [World.frozen?, h0], (Array.getElem?_eq_some_iff.1 h0).1⟩
  · rw [cell_of_row w g _ cur _ (0, 0) h0]; exact h1
  · rw [cell_of_row w g _ cur _ (0, 0) h0]; exact h2
  · rw [cell_of_row w g _ cur _ (0, 0) h0]; exact h3
theorem EB.set1 {w : World} {g a b c b' : Nat} (h : EB w g a b c) : EB (w.setCell ⟨g, 1, none⟩ (.int .i64 b')) g a b' c := by
  obtain ⟨cur, h0, h1, h2, h3⟩ := h
  refine ⟨cur.setIfInBounds 1 (.int .i64 b'), ?_, ?_, ?_, ?_⟩
  · exact heap_set h0
  · simpa [Array.getElem?_setIfInBounds] using h1
  · have : 1 < cur.size := by by_cases hh : 1 < cur.size; exact hh; simp [hh] at h2
    simp [Array.getElem?_setIfInBounds, this]
  · simpa [Array.getElem?_setIfInBounds] using h3
theorem EB.set2 {w : World} {g a b c c' : Nat} (h : EB w g a b c) : EB (w.setCell ⟨g, 2, none⟩ (.int .i64 c')) g a b c' := by
  obtain ⟨cur, h0, h1, h2, h3⟩ := h
  refine ⟨cur.setIfInBounds 2 (.int .i64 c'), ?_, ?_, ?_, ?_⟩
  · exact heap_set h0
  · simpa [Array.getElem?_setIfInBounds] using h1
  · simpa [Array.getElem?_setIfInBounds] using h2
  · have : 2 < cur.size := by by_cases hh : 2 < cur.size; exact hh; simp [hh] at h3
    simp [Array.getElem?_setIfInBounds, this]
def encE (x : Nat × Nat × Nat) : List Value := [.int .i64 x.1, .int .i64 x.2.1, .int .i64 x.2.2]

/-- 'append(nil, e)': one row. -/
theorem app_ent (w : World) {ops : Array Oper} {rest : List Oper} {o : Oper} {a : Act} {Q : Exit → Act → World → Prop} (hgd : o.guard = none) (s x : Operand)
    (ho : o.op = .call { callee := .builtin .append, args := #[s, x], argTypes := #[81, 81] })
    (base : Nat) (y : Nat × Nat × Nat) (g : Nat) (hs : a.eval s = .slice none 0 0) (hx : a.eval x = .slice (some ⟨g, 0, none⟩) 1 1)
    (hnew : w.heap[g]? = some (.cells #[.int .i64 y.1, .int .i64 y.2.1, .int .i64 y.2.2] 112 (0, 0))) (hbase : base ≤ w.heap.size)
    (h : ∀ g' cap w', base ≤ g' → 1 ≤ cap → cap ≤ 9223372036854775807 → EB w' g' y.1 y.2.1 y.2.2 → Below w.heap.size w w' → wpList Try.prog ops Q rest (a.put o.dst (.slice (some ⟨g', 0, none⟩) 1 cap)) w') :
    wpList Try.prog ops Q (o :: rest) a w := by
  obtain ⟨i0, hi, hz0, hz1, hz2⟩ := info_parts infoEnt
  refine wpList_append_lies w hgd s x 81 ho base 112 i0 _ 3 24 Try.underlying81 hi hz0 hz1 hz2 rfl (by decide) (.slice none 0 0) 0 [] hs (World.ownsRow_nil _ _ _ _)
    ⟨g, 0, none⟩ 1 1 [.int .i64 y.1, .int .i64 y.2.1, .int .i64 y.2.2] hx rfl (World.news_of_block hnew) ?_ (by omega) (by simp only [maxLen]; omega) (by omega) hbase _ rfl ?_
  · intro u hu
    simp at hu; rcases hu with rfl | rfl | rfl <;> rfl
  · intro g' cap w' h1 h2 _ _
    have hb := (Below.refl _ _).grown h2 (Nat.le_refl _) (fun k hk => by cases hk)
    obtain ⟨_, h3⟩ := h1
    rcases h3 with ⟨h3, _⟩ | ⟨g1, cap1, cur, hv, hg, hh, hn, hcap, hs, htake⟩
    · cases h3
    · simp only [Value.slice.injEq, Option.some.injEq, Addr.mk.injEq] at hv
      obtain ⟨⟨rfl, _⟩, hq, rfl⟩ := hv
      refine h g' cap w' hg (by simpa using hn) (by simp only [maxLen] at hcap; omega) ⟨cur, hh, ?_, ?_, ?_⟩ hb
      · have := congrArg (fun l => l[0]?) htake; simpa using this
      · have := congrArg (fun l => l[1]?) htake; simpa using this
      · have := congrArg (fun l => l[2]?) htake; simpa using this

set_option maxHeartbeats 1000000 in
set_option maxRecDepth 100000 in
theorem table_any (n st : Nat) (v : Int) (w : World) (hn : n ≤ 90) (hst1 : 1 ≤ st) (hst : st ≤ 300) (hv0 : -9223372036854775808 ≤ v) (hv1 : v ≤ 9223372036854775807) :
    Calls Try.prog 33 #[.string (bs (majL n st v))] w fun e w' => ∃ u, e = .returned (.tuple #[u, .bool true]) ∧ Ent w' u n (majH n st v).length ((majH n st v).length + (encL n st v).length) ∧ Below w.heap.size w w' := by
  by_cases h0 : n = 0
  · subst h0
    have hm : majL 0 st v = uintL 0 := rfl
    rw [hm]
    clear hm
    have HG := Lib.hid (getUint_any (uintL 0) [] 0 0 w (by simp) (by omega) (by have := uintL_len10 (n := 0) (by omega); omega))
    have hl : (uintL 0).length = 1 := by rw [uintL_small (by decide)]; rfl
    rw [Nat.zero_add] at HG
    generalize uintL 0 = S at *
    change Hid (Calls Try.prog 54 #[.string (bs S), .int .i64 0] w fun e w' => e = .returned (.tuple #[.int .u64 0, .int .i64 S.length, .int .i64 0]) ∧ w = w') at HG
    go_enter Try.func33, Try.ntmps33
    go_wp2_with fail
    refine HG.out.mono ?_
    rintro e w1 ⟨rfl, rfl⟩
    go_wp2_with fail
    refine wp_loop_rounds 1 ?_
    rw [rounds_succ]
    go_wp2_with fail
    refine wp_loop_rounds 1 ?_
    rw [rounds_succ]
    go_wp2_with fail
    go_ret2
    exact ⟨_, rfl, rfl, Below.refl _ _⟩
  · have hel := encL_len n st v hn hst hv0 hv1
    have hu1 := uintL_len10 (n := 1) (by omega)
    have hu7 := uintL_len10 (n := 7) (by omega)
    have hue := uintL_len10 (n := (encL n st v).length) (by omega)
    have hm : majL n st v = uintL 1 ++ (uintL 7 ++ (uintL (encL n st v).length ++ encL n st v)) := by unfold majL majH; rw [if_neg h0]; simp only [List.append_assoc]
    have hH : (majH n st v).length = (uintL 1).length + (uintL 7).length + (uintL (encL n st v).length).length := by unfold majH; simp only [List.length_append]; omega
    obtain ⟨S, hS⟩ : ∃ S, S = majL n st v := ⟨_, rfl⟩
    rw [← hS] at hm ⊢
    have hSl : S.length = (uintL 1).length + (uintL 7).length + (uintL (encL n st v).length).length + (encL n st v).length := by rw [hm]; simp only [List.length_append]; omega
    have HG1 := Lib.hid (fun w' => getUint_any S _ 0 1 w' (by rw [List.drop_zero]; exact hm) (by omega) (by omega))
    have HG2 := Lib.hid (fun w' => getUint_any S (uintL (encL n st v).length ++ encL n st v) (uintL 1).length 7 w' (by rw [hm, drop_len]) (by omega) (by omega))
    have HG3 := Lib.hid (fun w' => getUint_any S (encL n st v) ((uintL 1).length + (uintL 7).length) (encL n st v).length w' (by rw [hm, ← List.drop_drop, drop_len, drop_len]) (by omega) (by omega))
    have hp3 : (uintL 1).length + (uintL 7).length + (uintL (encL n st v).length).length ≤ 30 := by omega
    rw [hH]
    clear hS hm hH
    rw [Nat.zero_add] at HG1
    generalize (encL n st v).length = c at *
    generalize (uintL 1).length + (uintL 7).length + (uintL c).length = p3 at *
    generalize (uintL 1).length + (uintL 7).length = p2 at *
    generalize (uintL 1).length = p1 at *
    change Hid (∀ w', Calls Try.prog 54 #[.string (bs S), .int .i64 0] w' fun e w'' => e = .returned (.tuple #[.int .u64 1, .int .i64 p1, .int .i64 0]) ∧ w' = w'') at HG1
    change Hid (∀ w', Calls Try.prog 54 #[.string (bs S), .int .i64 p1] w' fun e w'' => e = .returned (.tuple #[.int .u64 7, .int .i64 p2, .int .i64 0]) ∧ w' = w'') at HG2
    go_enter Try.func33, Try.ntmps33
    go_wp2_with fail
    refine (HG1.out _).mono ?_
    rintro e w1 ⟨rfl, rfl⟩
    go_wp2_with fail
    refine wp_loop_rounds 2 ?_
    rw [rounds_succ]
    go_wp2_with fail
    refine (HG2.out _).mono ?_
    rintro e w1 ⟨rfl, rfl⟩
    go_wp2_with fail
    refine (HG3.out _).mono ?_
    rintro e w1 ⟨rfl, rfl⟩
    have hcw : ¬ (IntKind.u64.wrap ((p3 : Int) + (c : Int)) < (c : Int)) := by rw [IntKind.wrap_u64]; omega
    go_wp2_with (at_builtin; refine app_ent _ rfl (.tmp 68) (.tmp 77) rfl w.heap.size (7, 0, c) w.heap.size (by rfl) (by rfl) (heap_alloc_new _ _) (by simp) ?_; intro g' cap' w2 hg hc1 hc2 hEB hbl'; have HE := Lib.hid hEB; have HB := Lib.hid hbl'; clear hEB hbl')
    rw [rounds_succ]
    have HR2 := Lib.hid (HE.out.set1 (b' := p3)).cells
    have HR3 := Lib.hid ((HE.out.set1 (b' := p3)).set2 (c' := p3 + c)).cells
    obtain ⟨hx0, hx1, hx2, hx3, hx4, hx5⟩ := HE.out.cells
    obtain ⟨hy0, hy1, hy2, hy3, hy4, hy5⟩ := HR2.out
    clear hx0 hx4 hy0 hy1 hy3
    clear HG1 HG2 HG3 hcw
    go_wp2_with fail
    refine wp_loop_rounds 2 ?_
    rw [rounds_succ]
    go_wp2_with fail
    rw [rounds_succ]
    go_wp2_with fail
    have hf : ((c : Int) == (p3 : Int) + c - p3) = true := by rw [show (p3 : Int) + c - p3 = c by omega]; simp
    rw [hf]
    go_ret2
    refine ⟨_, rfl, ?_, ?_⟩
    · unfold Ent
      rw [if_neg h0]
      have HX := HR3.out
      exact ⟨g', cap', rfl, hc1, hc2, by simpa [Nat.add_comm] using HX.2.2.2.2.2, by simpa [Nat.add_comm] using HX.1, by simpa [Nat.add_comm] using HX.2.1, by simpa [Nat.add_comm] using HX.2.2.1⟩
    · exact ((below_any (n := 0) HB.out).setCell (p := ⟨_, 1, none⟩) hg _).setCell (p := ⟨_, 2, none⟩) hg _

end Go.Proofs.Ytnjcelilljniaaa
