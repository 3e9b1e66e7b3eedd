/-
  delta.Encode of two samples or more.
-/
import Derived.Test.YtnjcelilljniaaaTEncR
namespace Go.Proofs.Ytnjcelilljniaaa
open Go.RowKit Go.Shelf

attribute [local go_sem] Oper.semAt_some

/-- Between two rounds: both rows, each in its box. -/
def EncI (N B : Nat) (pre : List (Nat × Nat)) (W : World) : Prop :=
  ∃ v1 v2, Boxed W B 39 v1 ∧ Boxed W (B + 1) 39 v2 ∧ OwnR 37 1 encN W N v1 (pre.map (·.1)) ∧ OwnR 37 1 encN W N v2 (pre.map (·.2)) ∧ (v1.ownBlock = none ∨ v1.ownBlock ≠ v2.ownBlock)
theorem encI_own (N B : Nat) : Own (EncI N B) := by
  rintro pre X Y row ⟨v1, v2, b1, b2, o1, o2, hd⟩ hg hrow
  obtain ⟨_, b1', o1', rfl⟩ := holdsRow_own N B 39 37 1 (fun _ : List (Nat × Nat) => (pre.map Prod.fst).length) (fun _ => (pre.map Prod.fst).flatMap encN) (fun _ v => v = v1) pre X Y row ⟨v1, b1, o1, rfl⟩ hg hrow
  obtain ⟨_, b2', o2', rfl⟩ := holdsRow_own N (B + 1) 39 37 1 (fun _ : List (Nat × Nat) => (pre.map Prod.snd).length) (fun _ => (pre.map Prod.snd).flatMap encN) (fun _ v => v = v2) pre X Y row ⟨v2, b2, o2, rfl⟩ hg hrow
  exact ⟨_, _, b1', b2', o1', o2', hd⟩
theorem encI_start {N B : Nat} {W : World} (h1 : Boxed W B 39 (.slice none 0 0)) (h2 : Boxed W (B + 1) 39 (.slice none 0 0)) : EncI N B [] W :=
  ⟨_, _, h1, h2, OwnR.nil _ _, OwnR.nil _ _, .inl rfl⟩
/-- What a round keeps. -/
def EncR (N B : Nat) (w W w' : World) : Prop := KeepsFrom N W w' ∧ ButX N (fun k => k = B ∨ k = B + 1) W w' ∧ Below w.heap.size w w' ∧ N ≤ w'.heap.size
theorem encR_start {N B : Nat} {w W : World} (hN : N ≤ W.heap.size) (hB : Below w.heap.size w W) : EncR N B w W W.drew :=
  ⟨(KeepsOthers.drew W).from _, ButX.own ((Below.refl _ W).drew), hB.drew, hN⟩
theorem encR_step {N B : Nat} {w W w' : World} (hw : w.heap.size ≤ B) (hB : B < N ∧ B + 1 < N) (h : EncR N B w W w') :
    N ≤ w'.heap.size ∧ (∀ o, EncR N B w W (w'.alloc o)) ∧ (∀ w'' u, w'.grownBy w'' u → (∀ k, u = some k → N ≤ k ∧ ∃ o : Obj, w'.heap[k]? = some o ∧ o.isCells = true) → EncR N B w W w'') ∧
      (∀ y, EncR N B w W (w'.setCell ⟨B, 0, none⟩ y)) ∧ (∀ y, EncR N B w W (w'.setCell ⟨B + 1, 0, none⟩ y)) := by
  obtain ⟨h1, h2, h3, h4⟩ := h
  have hset : ∀ b y, b < N → (b = B ∨ b = B + 1) → w.heap.size ≤ b → EncR N B w W (w'.setCell ⟨b, 0, none⟩ y) := fun b y hb hx hwb => by
    refine ⟨h1.trans ((KeepsOthers.setCell _ _ _).from _), h2.trans ⟨by simp [World.setCell], fun k hk hnx _ => Below.heap_setCell _ _ _ _ (fun e => hnx ?_)⟩, h3.setCell (p := ⟨b, 0, none⟩) hwb _, by simpa [World.setCell] using h4⟩
    have e' : k = b := e
    rw [e']; exact hx
  refine ⟨h4, fun o => ?_, fun w'' u hg hu => ?_, fun y => hset B y hB.1 (.inl rfl) hw, fun y => hset (B + 1) y hB.2 (.inr rfl) (by omega)⟩
  · exact ⟨h1.trans ((KeepsOthers.alloc _ _).from _), h2.trans (ButX.own ((Below.refl _ _).alloc (Nat.le_refl _) _)), h3.alloc h3.size _, by simp; omega⟩
  · refine ⟨h1.trans ((KeepsOthers.of_grownBy hg fun j o e ho => ?_).from _), h2.trans ⟨hg.size, fun k hk _ hkl => hg.block k hkl (fun e => ?_)⟩, h3.grown hg h3.size (fun k e => ?_), Nat.le_trans h4 hg.size⟩
    · obtain ⟨-, o', ho', hc⟩ := hu j e
      rw [ho] at ho'; cases ho'; exact hc
    · have := (hu k e.symm).1; omega
    · have := (hu k e).1; omega
theorem keepB2 {B : Nat} {c0 c1 : Value} {w w' : World} (h : w.cell? ⟨B, 0, none⟩ = some c0 ∧ w.cell? ⟨B + 1, 0, none⟩ = some c1) (hb : Below w.heap.size w w') :
    w'.cell? ⟨B, 0, none⟩ = some c0 ∧ w'.cell? ⟨B + 1, 0, none⟩ = some c1 := by
  have hlt : B < w.heap.size := World.block_lt_of_cell? w _ h.1
  have hlt2 : B + 1 < w.heap.size := World.block_lt_of_cell? w _ h.2
  exact ⟨(hb.cell (p := ⟨B, 0, none⟩) hlt).trans h.1, (hb.cell (p := ⟨B + 1, 0, none⟩) hlt2).trans h.2⟩
theorem tsL_lt {st n : Nat} (h : st ≤ 300) : ∀ x ∈ tsL st n, x < 18446744073709551616 := by
  intro x hx
  unfold tsL prsL at hx
  simp only [List.map_map, List.mem_map, List.mem_range, Function.comp] at hx
  obtain ⟨i, _, rfl⟩ := hx
  unfold pr
  simp only
  split <;> omega
theorem vsL_lt {st n : Nat} : ∀ x ∈ vsL st n, x < 18446744073709551616 := by
  intro x hx
  unfold vsL prsL at hx
  simp only [List.map_map, List.mem_map, List.mem_range, Function.comp] at hx
  obtain ⟨i, _, rfl⟩ := hx
  unfold pr
  simp
theorem encL_big (n st : Nat) (v : Int) (h : 2 ≤ n) :
    encL n st v = uintL n ++ (uintL 0 ++ uintL (foldN v)) ++ ([UInt8.ofNat (bestL (tsL st n)), UInt8.ofNat (bestL (vsL st n))] ++ packB (bitsE (bestL (tsL st n)) (bestL (vsL st n)) (prsL st (n - 1)))) := by
  unfold encL restL
  rw [if_neg (by omega), if_neg (by omega)]
theorem bitsE_le {ba bb : Nat} (ha : ba ≤ 40) (hb : bb ≤ 40) : ∀ l : List (Nat × Nat), (bitsE ba bb l).length ≤ 176 * l.length
  | [] => by simp [bitsE]
  | x :: l => by
    have ih := bitsE_le ha hb l
    have e : bitsE ba bb (x :: l) = (riceB x.1 ba ++ riceB x.2 bb) ++ bitsE ba bb l := rfl
    rw [e, List.length_append, List.length_append, riceB_len, riceB_len, List.length_cons]
    have h1 := riceC_le x.1 ba ha
    have h2 := riceC_le x.2 bb hb
    omega
theorem bitsE_snoc (ba bb st k : Nat) : bitsE ba bb (prsL st (k + 1)) = bitsE ba bb (prsL st k) ++ riceB (pr st k).1 ba ++ riceB (pr st k).2 bb := by
  rw [prsL_succ]
  unfold bitsE
  rw [List.flatMap_append]
  simp
theorem Wt.wrBelow {b : Nat} {v v' : Value} {B : List Bool} {w w' : World} (h : Wt b v B w) (hw : Wr b v v' w w') : Below b w w' := by
  obtain ⟨l, left, many, hbw, _⟩ := h
  exact hbw.wrBelow hw (Nat.le_refl b)
theorem ts_get {st n k : Nat} (h : k < n - 1) : (tsL st n).getD k 0 = (pr st k).1 := by
  simp [tsL, prsL, List.getD, List.getElem?_map, List.getElem?_range h]
theorem vs_get {st n k : Nat} (h : k < n - 1) : (vsL st n).getD k 0 = (pr st k).2 := by
  simp [vsL, prsL, List.getD, List.getElem?_map, List.getElem?_range h]
theorem Wt.packed {b : Nat} {v : Value} {B : List Bool} {w : World} (h : Wt b v B w) : Packed (packB B) B := by
  obtain ⟨l, left, many, _, hmany, hleft, rfl, _⟩ := h
  by_cases h0 : many = 0
  · subst h0
    have hp : Packed l (bitsOf l ++ toB left 0) := ⟨0, by omega, by simp [toB]⟩
    rw [← hp.is]; exact hp
  · obtain ⟨hp, _⟩ := packed_last (l := l) hmany (by omega) hleft
    rw [← hp.is]; exact hp
theorem packed_len {P : Bytes} {B : List Bool} (h : Packed P B) : 8 * P.length ≤ B.length + 7 ∧ B.length ≤ 8 * P.length := by
  obtain ⟨p, hp, e⟩ := h
  have := congrArg List.length e
  rw [bitsOf_len, List.length_append, List.length_replicate] at this
  omega
theorem Wt.below {b : Nat} {v : Value} {B : List Bool} {w w' : World} (h : Wt b v B w) (hw : Below w.heap.size w w') : Wt b v B w' := by
  obtain ⟨l, left, many, hbw, r⟩ := h
  exact ⟨l, left, many, hbw.below hw, r⟩
theorem cv2_after {w : World} {K : Nat} {x y : Int} (h : w.heap[K]? = some (.cells #[.int .u8 x, .int .u8 y] 5 (0, 0))) :
    (convert 47 9 (.slice (some ⟨K, 0, none⟩) 2 2)).run Try.prog w = .ok (.string (bs [UInt8.ofNat x.toNat, UInt8.ofNat y.toNat])) w := by
  rw [run_convert_bytes_string w _ _ 5 _ _ _ Try.underlying47 Try.underlying5 Try.underlying9, run_bytesToString w ⟨K, 0, none⟩ 2 2 [x, y] ?_]
  · rfl
  · exact run_loadCells_list w ⟨K, 0, none⟩ [.int .u8 x, .int .u8 y] (fun j u hj => by
      have hadd : (⟨K, 0, none⟩ : Addr).add j = ⟨K, j, none⟩ := by unfold Addr.add; split <;> simp_all
      rw [hadd, Lib.cell_of_heap h]
      match j, hj with
      | 0, hj => simp at hj; subst hj; rfl
      | 1, hj => simp at hj; subst hj; rfl
      | j + 2, hj => simp at hj)
theorem kept_rowT {b : Nat} {v : Value} {B : List Bool} {w w2 : World} {o : Obj} (ht : Wt b v B w) {W : World} (h2 : Wr b v v W w2) (hW : W.heap[w.heap.size]? = some o) : w2.heap[w.heap.size]? = some o := by
  obtain ⟨l, left, many, hbw, r⟩ := ht
  exact kept_row hbw h2 hW
theorem fin_below {b : Nat} {v : Value} {B : List Bool} {w W w2 : World} (ht : Wt b v B w) (hW : Below w.heap.size w W) (h2 : Wr b v v W w2) : Below b w w2 := by
  have hb : b < w.heap.size := by obtain ⟨l, left, many, hbw, _⟩ := ht; exact hbw.lt
  exact (hW.mono (Nat.le_of_lt hb)).trans ((ht.below hW).wrBelow h2)
theorem byte_small (x : Nat) (h : x ≤ 40) : UInt8.ofNat (IntKind.u8.wrap (x : Int)).toNat = UInt8.ofNat x := by
  rw [IntKind.wrap_u8, show ((x : Int) % 256).toNat = x by omega]
theorem enc_boxes {w3 w4 : World} {b off n cap st : Nat} {v : Int}
    (h : w4 = ((w3.alloc (.cells #[.slice none 0 0] 39)).alloc (.cells #[.slice none 0 0] 39)).alloc (.cells #[.slice (some ⟨b, off, none⟩) n cap] 22))
    (hs : Samples w3 (.slice (some ⟨b, off, none⟩) n cap) (smpL n st v)) (hn : 0 < n) :
    Below w3.heap.size w3 w4 ∧ Boxed w4 w3.heap.size 39 (.slice none 0 0) ∧ Boxed w4 (w3.heap.size + 1) 39 (.slice none 0 0) ∧ w4.heap.size = w3.heap.size + 3 ∧
      NSeen w4.heap.size (fun k => k = w3.heap.size ∨ k = w3.heap.size + 1) w4 (w3.heap.size + 1 + 1) b off cap n st v := by
  subst h
  have hb : Below w3.heap.size w3 (((w3.alloc (.cells #[.slice none 0 0] 39)).alloc (.cells #[.slice none 0 0] 39)).alloc (.cells #[.slice (some ⟨b, off, none⟩) n cap] 22)) :=
    (((Below.refl _ _).alloc (Nat.le_refl _) _).alloc (by simp) _).alloc (by simp; omega) _
  have e3 : (((w3.alloc (.cells #[.slice none 0 0] 39)).alloc (.cells #[.slice none 0 0] 39)).alloc (.cells #[.slice (some ⟨b, off, none⟩) n cap] 22)).heap[w3.heap.size + 1 + 1]? = some (.cells #[.slice (some ⟨b, off, none⟩) n cap] 22 (0, 0)) := by
    have := heap_alloc_new ((w3.alloc (.cells #[.slice none 0 0] 39)).alloc (.cells #[.slice none 0 0] 39)) (.cells #[.slice (some ⟨b, off, none⟩) n cap] 22)
    simpa using this
  refine ⟨hb, ?_, ?_, by simp, ⟨by simp, by omega, ?_⟩, hs.below hb, ?_⟩
  · exact ((Boxed.new w3 _ _).alloc _).alloc _
  · have := (Boxed.new (w3.alloc (.cells #[.slice none 0 0] 39)) 39 (.slice none 0 0)).alloc (.cells #[.slice (some ⟨b, off, none⟩) n cap] 22)
    simpa using this
  · rw [Lib.cell_of_heap e3]; rfl
  · obtain ⟨b', off', hb', hlt, _, h1⟩ := hs.at_ (i := 0) (by rw [smpL_len]; omega)
    simp only [Option.some.injEq, Addr.mk.injEq, and_true] at hb'
    obtain ⟨rfl, rfl⟩ := hb'
    exact ⟨by simp; omega, by omega⟩

set_option maxRecDepth 100000 in
set_option maxHeartbeats 4000000 in
attribute [local go_sem ↓] Go.wp_at_zero Go.wp_at_succ in
theorem enc_big (vv : Value) (n st : Nat) (v : Int) (w : World) (hv : Samples w vv (smpL n st v)) (hn2 : 2 ≤ n) (hn : n ≤ 90) (hst1 : 1 ≤ st) (hst : st ≤ 300) (hv0 : -9223372036854775808 ≤ v) (hv1 : v ≤ 9223372036854775807) :
    Calls Try.prog 4 #[vv] w fun e w' => e = .returned (.tuple #[.string (bs (encL n st v)), .int .i64 0]) ∧ Below w.heap.size w w' := by
  obtain ⟨a, cap, rfl, hnc, hcm⟩ : ∃ a cap, vv = .slice a n cap ∧ n ≤ cap ∧ cap ≤ 9223372036854775807 := by
    obtain ⟨a, cap, h1, h2, h3, _⟩ := hv
    rw [smpL_len] at h1 h2
    exact ⟨a, cap, h1, h2, h3⟩
  have HV := Lib.hid hv
  clear hv
  refine (callsIn_wide (n := 5)).1 ?_
  refine callsIn_of_wp_marks Try.func4 rfl trivial ?_ rfl
  simp only [Try.ntmps4, List.size_toArray, List.length_cons, List.length_nil, Nat.reduceAdd, Nat.reduceSub, Array.replicate_succ, Array.replicate_zero, List.push_toArray, List.append_toArray, List.nil_append, List.cons_append]
  refine (wpIn_wide (n := 5)).2 ?_
  go_wp2_with fail
  go_loopw [22, 4] (fun x y wr => ∃ (k : Nat) (last : Int), x = .int .i64 k ∧ k ≤ n ∧ y = .int .i64 last ∧ -1 ≤ last ∧ last < (k * st : Nat) ∧ last ≤ 100000 ∧ Below w.heap.size w wr)
    (fun x y wr => n - (intOf x).toNat)
  case atStart => exact ⟨0, -1, rfl, Nat.zero_le _, rfl, by omega, by omega, by omega, Below.refl _ _⟩
  case round =>
    obtain ⟨k, last, rfl, hk, rfl, hl0, hl1, hl2, hbl⟩ := hrel
    have HB := Lib.hid hbl
    have HV1 := Lib.hid (HV.out.below hbl)
    clear hbl
    by_cases hlt : k < n
    · obtain ⟨b, off, rfl, hbs, c0, c1⟩ := HV1.out.at_ (i := k) (by rw [smpL_len]; exact hlt)
      rw [smpL_get hlt] at c0 c1
      have hmul : (k + 1) * st = k * st + st := Nat.succ_mul _ _
      have hkb : k * st ≤ 90 * 300 := Nat.mul_le_mul (by omega) hst
      simp only at c0 c1
      have HMul := Lib.hid hmul
      generalize k * st = x0 at *
      clear hmul
      go_wp2_with fail
      go_roundw
      case rel => exact ⟨k + 1, (x0 : Int), by go_num, by omega, rfl, by omega, by rw [HMul.out]; omega, by omega, HB.out.alloc HB.out.size _⟩
      case measure => simp [intOf]; omega
    · have hke : n = k := by omega
      subst hke
      clear hl0 hl1 hl2
      go_wp2_with fail
      refine (uint_any n _ (by omega)).mono ?_
      rintro e w1 ⟨rfl, b1⟩
      have HB1 := Lib.hid (HB.out.trans (b1.mono HB.out.size))
      have HV2 := Lib.hid (HV1.out.below b1)
      clear b1 HV1 HB
      obtain ⟨b, off, rfl, hbs, c0, c1⟩ := HV2.out.at_ (i := 0) (by rw [smpL_len]; omega)
      rw [smpL_get (by omega)] at c0 c1
      simp only [Nat.zero_mul, Nat.add_zero] at c0 c1
      have hlt0 : (0 : Int) < n := by omega
      have hu0 := uintL_len10 (n := 0) (by omega)
      have hun := uintL_len10 (n := n) (by omega)
      have huv := uintL_len10 (foldN_lt hv0 hv1)
      have hg1 : ¬ ((uintL 0).length + (uintL (foldN v)).length > 9223372036854775807) := by omega
      have hg2 : ¬ ((uintL n).length + (uintL 0 ++ uintL (foldN v)).length > 9223372036854775807) := by rw [List.length_append]; omega
      have hg3 : ¬ ((uintL n).length + ((uintL 0).length + (uintL (foldN v)).length) > 9223372036854775807) := by omega
      clear hu0 hun huv
      go_wp2_with fail
      go_region_held3 (fun w' => w'.cell? ⟨b, off, none⟩ = some (.int .i64 0) ∧ w'.cell? ⟨b, off + 1, none⟩ = some (.int .i64 v)) (first | exact keepT (by assumption) hb2 | exact keepT (by assumption) hb1 | go_keep)
        (first
          | (go_at_call 8; refine (uint_any 0 _ (by omega)).mono ?_; rintro e w2 ⟨rfl, hb1⟩)
          | (go_at_call 9; refine (int_any v _ hv0 hv1).mono ?_; rintro e w3 ⟨rfl, hb2⟩))
      have HB3 := Lib.hid (HB1.out.drew.trans (hb1.mono HB1.out.size))
      have HB4 := Lib.hid (HB3.out.trans (hb2.mono HB3.out.size))
      have HV3 := Lib.hid ((HV2.out.below (w' := w2) ((Below.refl _ _).drew.trans hb1)).below hb2)
      clear hb1 hb2 HB1 HB3 HV2 c0 c1
      go_wp2_with fail
      refine (numbers_any _ n cap _).mono ?_
      rintro e w4 ⟨rfl, h4⟩
      have H4 := Lib.hid h4
      clear h4
      go_wp2_with fail
      obtain ⟨hb5, hx1, hx2, hsz, HSeen⟩ := enc_boxes H4.out HV3.out (by omega)
      have HB5 := Lib.hid (HB4.out.trans (hb5.mono HB4.out.size))
      have hws := HB4.out.size
      clear H4 HB4 HV3 hb5
      refine (wpIn_wide (n := 5)).1 ?_
      refine wpIn_rangeFunc_ownG (F := Fence.wide) rfl (by omega) (gf := 23) (lb := #[.pointer (some ⟨w3.heap.size + 1 + 1, 0, none⟩)]) rfl trivial (enters_of Try.func23 (by kernel_rfl) rfl)
        (numbers_stops 4 w4.heap.size (w3.heap.size + 1 + 1) b off cap n st (fun k => k = w3.heap.size ∨ k = w3.heap.size + 1) (by omega) v hn2 (by omega) hst hv0 hv1 w4 (Nat.le_refl _) HSeen) (fun h k => ButX.trans h k) (ButX.putObj (Nat.le_refl _)) (Below.refl _ _) (fun _ => rfl)
        (fun pre W => EncI w4.heap.size w3.heap.size pre W ∧ (Below w.heap.size w W ∧ w4.heap.size ≤ W.heap.size))
        (fun _ _ _ => False)
        (OwnFrom.and (Own.from (encI_own w4.heap.size w3.heap.size) _) (OwnFrom.and (ownFrom_below (Nat.le_refl _) HB5.out.size) (fun _ X Y row hs hg _ => Nat.le_trans hs hg.size)))
        (fun _ _ _ _ _ hs _ _ => hs)
        ⟨encI_start hx1 hx2, HB5.out, Nat.le_refl _⟩
        ?a₁
        ?assign ?body ?done ?stop
      case assign =>
        intro l x W K hK
        gi_wp2
        exact hK
      case stop =>
        rintro D c pre W _ _ h _
        exact h.elim
      case body =>
        rintro l pre x W ⟨⟨v1, v2, bx1, bx2, o1, o2, hd⟩, hB, hN⟩ hlt
        have hpl : pre.length ≤ 1000 := by omega
        have hB1 : w3.heap.size < w4.heap.size ∧ w3.heap.size + 1 < w4.heap.size := by omega
        refine wpIn_block ?_
        refine region20 ?r20 (N := w4.heap.size) (B := w3.heap.size) (x1 := x.1) (x2 := x.2) (l1 := pre.map (·.1)) (l2 := pre.map (·.2)) (v1 := v1) (v2 := v2) (EncR w4.heap.size w3.heap.size w W) ?_ rfl rfl rfl rfl rfl bx1 bx2 o1 o2 hd ?_ ?_ ?_
        case r20 =>
          refine ⟨rfl, ⟨_, rfl, rfl, rfl, rfl⟩, ⟨_, rfl, rfl, rfl, rfl⟩, ⟨_, rfl, rfl, rfl, rfl⟩, ⟨_, rfl, rfl, rfl, rfl⟩, ⟨_, rfl, rfl, rfl, rfl⟩, ⟨_, rfl, rfl, rfl, rfl⟩, ⟨_, rfl, rfl, rfl, rfl⟩, ⟨_, rfl, rfl, rfl, rfl⟩, ⟨_, rfl, rfl, rfl, rfl⟩, ⟨_, rfl, rfl, rfl, rfl⟩, ?_, ?_⟩
          · intro i l hi
            have h := (ready_iff hi).2.2
            refine ⟨?_, ?_, ?_, ?_, ?_, ?_⟩ <;> rintro rfl <;> simp [Region.binds] at h <;> simp [h]
          · intro l hs hr k hk
            exact ready_last hs (by kernel_rfl) hr k hk
        · simp; exact hpl
        · exact encR_start hN hB
        · exact fun w' h => encR_step hws hB1 h
        · intro a' w' u1 u2 h1 h2 h3 h4 h5 h6
          exact ⟨h6.1, h6.2.1, ⟨u1, u2, h1, h2, by rw [List.map_append]; exact h3, by rw [List.map_append]; exact h4, h5⟩, h6.2.2.1, h6.2.2.2⟩
      case done =>
        rintro D ys W hD rfl ⟨⟨v1, v2, bx1, bx2, o1, o2, hd⟩, hB, hN⟩ hK
        obtain ⟨a1, cp1, rfl, hc1, hm1⟩ : ∃ a1 cp1, v1 = .slice a1 (n - 1) cp1 ∧ n - 1 ≤ cp1 ∧ cp1 ≤ 9223372036854775807 := by
          obtain ⟨a1, cp1, h1, h2, h3, _⟩ := o1.nums
          rw [List.length_map, prsL_len] at h1 h2
          exact ⟨a1, cp1, h1, h2, h3⟩
        obtain ⟨a2, cp2, rfl, hc2, hm2⟩ : ∃ a2 cp2, v2 = .slice a2 (n - 1) cp2 ∧ n - 1 ≤ cp2 ∧ cp2 ≤ 9223372036854775807 := by
          obtain ⟨a1, cp1, h1, h2, h3, _⟩ := o2.nums
          rw [List.length_map, prsL_len] at h1 h2
          exact ⟨a1, cp1, h1, h2, h3⟩
        have HK := Lib.hid hK
        have HB := Lib.hid hB
        have c1 := bx1.cell
        have c2 := bx2.cell
        have n1 := o1.nums
        have n2 := o2.nums
        change Nums W (.slice a1 (n - 1) cp1) (tsL st n) at n1
        change Nums W (.slice a2 (n - 1) cp2) (vsL st n) at n2
        have N1 := Lib.hid n1
        have N2 := Lib.hid n2
        clear hK hB hd o1 o2 n1 n2 bx1 bx2
        have hB0 := HB.out.size
        have hl1 : (tsL st n).length ≤ 100000 := by unfold tsL; rw [List.length_map, prsL_len]; omega
        have hl2 : (vsL st n).length ≤ 100000 := by unfold vsL; rw [List.length_map, prsL_len]; omega
        have hu1 := tsL_lt (st := st) (n := n) hst
        have hu2 := vsL_lt (st := st) (n := n)
        go_wp2_with fail
        have HA1 := Lib.hid (fun w' h => best_any (.slice a1 (n - 1) cp1) (tsL st n) w' h hl1 hu1)
        have HA2 := Lib.hid (fun w' h => best_any (.slice a2 (n - 1) cp2) (vsL st n) w' h hl2 hu2)
        go_region_held3 (fun w' => w'.cell? ⟨w3.heap.size, 0, none⟩ = some (.slice a1 (n - 1) cp1) ∧ w'.cell? ⟨w3.heap.size + 1, 0, none⟩ = some (.slice a2 (n - 1) cp2)) (first | exact keepB2 (by assumption) hb2 | exact keepB2 (by assumption) hb1 | go_keep)
          (first
            | (go_at_call 11; refine (HA1.out _ (N1.out.below ((Below.refl _ _).drew))).mono ?_; clear HA1; rintro e w5 ⟨rfl, hb1⟩)
            | (go_at_call 11; refine (HA2.out _ ((N2.out.below ((Below.refl _ _).drew)).below hb1)).mono ?_; rintro e w6 ⟨rfl, hb2⟩))
        have hW6 : Below W.heap.size W w6 := (((Below.refl _ _).drew).trans hb1).trans (hb2.mono hb1.size)
        have HB6 := Lib.hid (HB.out.trans (hW6.mono HB.out.size))
        have N1' := Lib.hid (N1.out.below hW6)
        have N2' := Lib.hid (N2.out.below hW6)
        obtain ⟨e1, e2⟩ := keepB2 ⟨c1, c2⟩ hW6
        have hDl : D < W.heap.size := lt_of_heap HK.out
        have HK6 := Lib.hid ((hW6.block D hDl).trans HK.out)
        have hba := bestL_le (tsL st n)
        have hbb := bestL_le (vsL st n)
        clear hb1 hb2 hW6 N1 N2 HB c1 c2 hl1 hl2 hu1 hu2 HA2
        have HEL := Lib.hid (encL_big n st v hn2)
        obtain ⟨ba, hbae⟩ : ∃ ba, ba = bestL (tsL st n) := ⟨_, rfl⟩
        obtain ⟨bb, hbbe⟩ : ∃ bb, bb = bestL (vsL st n) := ⟨_, rfl⟩
        rw [← hbae, ← hbbe] at HEL
        rw [← hbae] at hba ⊢
        rw [← hbbe] at hbb ⊢
        clear hbae hbbe
        go_wp2_with fail
        refine (newW_any _).mono ?_
        rintro e w7 ⟨rfl, h7⟩
        have HW7 := Lib.hid (show Wt w6.heap.size (.slice none 0 0) [] w7 by rw [h7]; exact Wt.fresh w6)
        have HB7 := Lib.hid (show Below w6.heap.size w6 w7 by rw [h7]; exact (Below.refl _ _).alloc (Nat.le_refl _) _)
        clear h7
        have hlt1 : w3.heap.size < w6.heap.size := World.block_lt_of_cell? w6 _ e1
        have hlt2 : w3.heap.size + 1 < w6.heap.size := World.block_lt_of_cell? w6 _ e2
        have g1 := (HB7.out.cell (p := ⟨w3.heap.size, 0, none⟩) hlt1).trans e1
        go_wp2_with fail
        clear g1
        go_loopw [82] (fun x wr => ∃ (k : Nat) (vW : Value), x = .int .i64 k ∧ k ≤ n - 1 ∧ Wt w6.heap.size vW (bitsE ba bb (prsL st k)) wr ∧ Below w6.heap.size w6 wr)
          (fun x wr => n - (intOf x).toNat)
        case atStart => exact ⟨0, _, rfl, Nat.zero_le _, HW7.out, HB7.out⟩
        case round =>
          obtain ⟨k, vW, rfl, hk', hwt, hbl⟩ := hrel
          have HT := Lib.hid hwt
          have HL := Lib.hid hbl
          clear hwt hbl HW7 HB7
          have hbe := bitsE_le (ba := ba) (bb := bb) hba hbb (prsL st k)
          rw [prsL_len] at hbe
          by_cases hlt' : k < n - 1
          · obtain ⟨b1, f1, rfl, hbl1, q1⟩ := N1'.out.at_ (i := k) (by unfold tsL; rw [List.length_map, prsL_len]; exact hlt')
            obtain ⟨b2, f2, rfl, hbl2, q2⟩ := N2'.out.at_ (i := k) (by unfold vsL; rw [List.length_map, prsL_len]; exact hlt')
            rw [ts_get hlt'] at q1
            rw [vs_get hlt'] at q2
            have r1 := (HL.out.cell (p := ⟨b1, f1 + k, none⟩) hbl1).trans q1
            have hx1 : (pr st k).1 < 18446744073709551616 := by unfold pr; simp only; split <;> omega
            have hx2 : (pr st k).2 < 18446744073709551616 := by unfold pr; simp
            have HSn := Lib.hid (bitsE_snoc ba bb st k)
            generalize pr st k = pk at *
            obtain ⟨p1, p2⟩ := pk
            simp only at r1 q2 hx1 hx2 HSn
            have HR1 := Lib.hid (riceW_any w6.heap.size vW _ p1 ba wr HT.out hba hx1 (by omega))
            clear q1
            go_wp2_with fail
            refine HR1.out.mono ?_
            rintro e w8 ⟨rfl, v8, t8, r8⟩
            have HL8 := Lib.hid (HL.out.trans ((HT.out.wrBelow r8)))
            have g2 := (HL8.out.cell (p := ⟨w3.heap.size + 1, 0, none⟩) hlt2).trans e2
            have g3 := (HL8.out.cell (p := ⟨b2, f2 + k, none⟩) hbl2).trans q2
            have HR2 := Lib.hid (riceW_any w6.heap.size v8 _ p2 bb w8 t8 hbb hx2 (by rw [List.length_append, riceB_len]; have := riceC_le p1 ba hba; omega))
            have T8 := Lib.hid t8
            clear t8 r8 r1 HR1
            go_wp2_with fail
            refine HR2.out.mono ?_
            rintro e w9 ⟨rfl, v9, t9, r9⟩
            rw [← HSn.out] at t9
            have T9 := Lib.hid t9
            have HL9 := Lib.hid (HL8.out.trans ((T8.out.wrBelow r9)))
            clear t9 r9 g2 g3
            go_wp2_with fail
            go_roundw
            case rel => exact ⟨k + 1, v9, by go_num, by omega, T9.out, HL9.out⟩
            case measure => simp [intOf]; omega
          · have hke : n - 1 = k := by omega
            rw [← hke] at HT hbe
            have HK9 := Lib.hid ((HL.out.block D (lt_of_heap HK6.out)).trans HK6.out)
            have HB9 := Lib.hid (HB6.out.trans (HL.out.mono (by have := HB6.out.size; omega)))
            have hpk := HT.out.packed
            have hpl := packed_len hpk
            generalize bitsE ba bb (prsL st (n - 1)) = BB at *
            have HBY := Lib.hid (fun W' (hW : Below wr.heap.size wr W') => bytes_any w6.heap.size vW BB W' (HT.out.below hW) (by omega))
            have hcv := fun (X : World) (x y : Int) => cv2_after (w := X.alloc (.cells #[.int .u8 x, .int .u8 y] 5)) (heap_alloc_new X _)
            have hcv2 := fun (X : World) (x y : Int) => cv2_after (w := (X.alloc (.cells #[.int .u8 x, .int .u8 y] 5)).drew) (heap_alloc_new X _)
            have hu0 := uintL_len10 (n := 0) (by omega)
            have hun := uintL_len10 (n := n) (by omega)
            have huv := uintL_len10 (foldN_lt hv0 hv1)
            have HG1 := Lib.hid (show (uintL n ++ (uintL 0 ++ uintL (foldN v))).length ≤ 30 by simp only [List.length_append]; omega)
            clear hu0 hun huv
            generalize uintL n ++ (uintL 0 ++ uintL (foldN v)) = SS at *
            have hg1 := HG1.out
            have hs1 : ¬ (SS.length + 1 + 1 > 9223372036854775807) := by omega
            have hs2 : ¬ (SS.length + 2 > 9223372036854775807) := by omega
            have hs3 : ¬ (SS.length + 2 + (packB BB).length > 9223372036854775807) := by omega
            have hs4 : ¬ (SS.length + (1 + 1) + (packB BB).length > 9223372036854775807) := by omega
            have hD6 : D < w6.heap.size := lt_of_heap HK6.out
            have hDw : w.heap.size ≤ D := Nat.le_trans HB5.out.size hD
            have hw6 : w.heap.size ≤ w6.heap.size := HB6.out.size
            have HBA := Lib.hid (byte_small ba hba)
            have HBB := Lib.hid (byte_small bb hbb)
            go_wp2_with fail
            refine wp_region_noPanic ?_
            go_region_with (go_at_call 14; refine (HBY.out _ (by first | exact (Below.refl _ _).drew | exact ((Below.refl _ _).drew).alloc (Nat.le_refl _) _ | exact ((Below.refl _ _).alloc (Nat.le_refl _) _).drew)).mono ?_; rintro e w9 ⟨rfl, hp9, h9⟩; try (have cv2 := cv2_after (kept_rowT HT.out h9 (heap_alloc_new wr _))))
            all_goals refine NoPanic.normal ?_
            all_goals (go_wp2_with fail)
            all_goals first
              | have hfin := fin_below HT.out ((Below.refl _ _).drew) h9
              | have hfin := fin_below HT.out (((Below.refl _ _).drew).alloc (Nat.le_refl _) _) h9
              | have hfin := fin_below HT.out (((Below.refl _ _).alloc (Nat.le_refl _) _).drew) h9
            all_goals
              (have HKf := (hfin.block D hD6).trans HK9.out
               have hBf := HB9.out.trans (hfin.mono hw6)
               have HKg := fun o => (Below.heap_alloc w9 o D (lt_of_heap HKf)).trans HKf
               have hBg := fun o => hBf.alloc hBf.size o)
            all_goals first
              | (refine ⟨by simp, .inl ⟨_, _, rfl, run_takeDeferred HKf, ?_⟩⟩
                 refine ⟨_, results_tmp2 rfl _ _ _, ?_, hBf.trans (belowK_b (w := w) (Nat.le_refl _) w9 D _ _ hDw HKf rfl rfl)⟩)
              | (refine ⟨by simp, .inl ⟨_, _, rfl, run_takeDeferred (HKg _), ?_⟩⟩
                 refine ⟨_, results_tmp2 rfl _ _ _, ?_, (hBg _).trans (belowK_b (w := w) (Nat.le_refl _) _ D _ _ hDw (HKg _) rfl rfl)⟩)
            all_goals
              (show Ending.returned (.tuple #[.string (bs (SS ++ (UInt8.ofNat (IntKind.u8.wrap (ba : Int)).toNat :: UInt8.ofNat (IntKind.u8.wrap (bb : Int)).toNat :: packB BB))), .int .i64 0]) = _
               rw [HEL.out, HBA.out, HBB.out]
               rfl)

end Go.Proofs.Ytnjcelilljniaaa
