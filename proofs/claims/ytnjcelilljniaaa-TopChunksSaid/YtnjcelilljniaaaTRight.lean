/-
  Rows of api.Row; series.merge where the first list is nil; series.Rows of no series, or of one.
-/
import Derived.OwnWalk
import Derived.Test.YtnjcelilljniaaaTMajD
namespace Go.Proofs.Ytnjcelilljniaaa
open Go.RowKit

abbrev Rw := Int × Int × Int
def encRw (x : Rw) : List Value := [.int .i64 x.1, .int .i64 x.2.1, .int .i64 x.2.2]
theorem infoRow : (Try.prog.info? 27).map (fun i => (i.zero, i.size, i.bytes)) = some (some (.agg #[.int .i64 0, .int .i64 0, .int .i64 0]), 3, 24) := by kernel_rfl
def rowsL (n st : Nat) (v : Int) : List Rw := (List.range n).map fun i => (((i * st : Nat) : Int), 7, v)
theorem rowsL_len (n st : Nat) (v : Int) : (rowsL n st v).length = n := by simp [rowsL]
theorem rowsL_get {n st : Nat} {v : Int} {i : Nat} (h : i < n) : (rowsL n st v).getD i (0, 0, 0) = (((i * st : Nat) : Int), 7, v) := by
  simp [rowsL, List.getD, List.getElem?_map, List.getElem?_range h]
theorem rowsL_succ (k st : Nat) (v : Int) : rowsL (k + 1) st v = rowsL k st v ++ [(((k * st : Nat) : Int), 7, v)] := by simp [rowsL, List.range_succ]

/-- 'l = append(l, x)': one row. -/
theorem app_row (w : World) {ops : Array Oper} {rest : List Oper} {o : Oper} {a : Act} {Q : Exit → Act → World → Prop} (hgd : o.guard = none) (s x : Operand)
    (ho : o.op = .call { callee := .builtin .append, args := #[s, x], argTypes := #[23, 23] })
    (base : Nat) (v : Value) (l : List Rw) (y : Rw) (g : Nat) (hs : a.eval s = v) (hx : a.eval x = .slice (some ⟨g, 0, none⟩) 1 1)
    (hnew : w.heap[g]? = some (.cells #[.int .i64 y.1, .int .i64 y.2.1, .int .i64 y.2.2] 27 (0, 0))) (hown : OwnR 27 3 encRw w base v l) (hbase : base ≤ w.heap.size) (hlen : l.length ≤ 1000000000)
    (h : ∀ g' cap w', OwnR 27 3 encRw w' base (.slice (some ⟨g', 0, none⟩) (l.length + 1) cap) (l ++ [y]) → Below base w w' → wpList Try.prog ops Q rest (a.put o.dst (.slice (some ⟨g', 0, none⟩) (l.length + 1) cap)) w') :
    wpList Try.prog ops Q (o :: rest) a w := by
  obtain ⟨i0, hi, hz0, hz1, hz2⟩ := info_parts infoRow
  refine wpList_append_lies w hgd s x 23 ho base 27 i0 _ 3 24 Try.underlying23 hi hz0 hz1 hz2 rfl (by decide) v l.length _ hs hown
    ⟨g, 0, none⟩ 1 1 [.int .i64 y.1, .int .i64 y.2.1, .int .i64 y.2.2] hx rfl (World.news_of_block hnew) ?_ (by omega) (by simp only [maxLen]; omega) (by omega) hbase _ rfl ?_
  · intro u hu
    simp at hu; rcases hu with rfl | rfl | rfl <;> rfl
  · intro g' cap w' h1 h2 _ _
    refine h g' cap w' ?_ ((Below.refl _ _).grown h2 hbase (fun k hk => (hown.lt k hk).1))
    unfold OwnR
    simpa [encRw] using h1

/-- What an owned row's value is. -/
theorem OwnR.src {α : Type} {t k : Nat} {enc : α → List Value} {w : World} {base : Nat} {v : Value} {l : List α} (h : OwnR t k enc w base v l) :
    ∃ ao cap, v = .slice ao l.length cap ∧ l.length ≤ cap ∧ cap ≤ 9223372036854775807 ∧ (l.flatMap enc).length = l.length * k ∧ (ao = none → l.length = 0 ∧ cap = 0) ∧ ∀ ad, ao = some ad → ∀ j u, (l.flatMap enc)[j]? = some u → w.cell? (ad.add j) = some u := by
  obtain ⟨h1, h2⟩ := h
  rcases h2 with ⟨rfl, h0⟩ | ⟨g, cap, cur, rfl, hg, hh, hn, hcap, hs, htake⟩
  · exact ⟨none, 0, by rw [h0], by omega, by omega, h1, fun _ => ⟨h0, rfl⟩, fun ad e => by cases e⟩
  · refine ⟨_, cap, rfl, hn, by simp only [maxLen] at hcap; omega, h1, fun e => (by cases e), fun ad e j u hj => ?_⟩
    cases e
    rw [Addr.add_lit, cell_of_row w g _ cur t (0, 0) hh, Nat.zero_add]
    rw [← htake, List.getElem?_take] at hj
    split at hj
    · simpa using hj
    · cases hj
theorem encRw_one {ls : List Rw} : ∀ u ∈ ls.flatMap encRw, u.oneCell' = true := by
  intro u hu
  obtain ⟨x, _, hx⟩ := List.mem_flatMap.1 hu
  simp only [encRw, List.mem_cons, List.not_mem_nil, or_false] at hx
  rcases hx with rfl | rfl | rfl <;> rfl

theorem OwnR.base {α : Type} {t k : Nat} {enc : α → List Value} {w : World} {b b' : Nat} {v : Value} {l : List α} (h : OwnR t k enc w b v l) (hb : b' ≤ b) : OwnR t k enc w b' v l := ownsRow_base h hb
theorem cells_below {w w' : World} {ao : Option Addr} {xs : List Value} (h : ∀ ad, ao = some ad → ∀ j u, xs[j]? = some u → w.cell? (ad.add j) = some u) (hb : Below w.heap.size w w') :
    ∀ ad, ao = some ad → ∀ j u, xs[j]? = some u → w'.cell? (ad.add j) = some u := by
  intro ad e j u hj
  have := h ad e j u hj
  exact (hb.cell (World.block_lt_of_cell? w _ this)).trans this

set_option maxRecDepth 100000 in
set_option maxHeartbeats 1000000 in
theorem mergeRow_any (b f : Value) (l : List Rw) (base : Nat) (w : World) (hb : OwnR 27 3 encRw w base b l) (hl : l.length ≤ 1000) :
    Calls Try.prog 36 #[.slice none 0 0, b, f] w fun e w' => ∃ u, e = .returned u ∧ OwnR 27 3 encRw w' w.heap.size u l ∧ Below w.heap.size w w' := by
  have HB := Lib.hid hb
  obtain ⟨ao, cap, rfl, h1, h2, h3, h4, h5⟩ := hb.src
  have H3 := Lib.hid h3
  have H4 := Lib.hid h4
  have H5 := Lib.hid h5
  clear hb h3 h4 h5
  have hw : IntKind.i64.wrap (l.length : Int) = l.length := IntWalk.i64_in _ (by omega)
  obtain ⟨i0, hi, hz0, hz1, hz2⟩ := info_parts infoRow
  go_enter Try.func36, Try.ntmps36
  go_wp2_with (at_make; refine wpList_make_own _ rfl _ _ 23 rfl w.heap.size 27 i0 _ 3 Try.underlying23 hi hz0 hz1 _ _ _ l.length rfl rfl (by first | rfl | simp) (by rw [hz2]; omega) (by simp only [maxLen]; omega) (Nat.le_refl _) ?_; intro w1 hown1 hgrow1)
  refine wp_loop_rounds 1 ?_
  rw [rounds_succ]
  have HBw := Lib.hid (fun w2 (h : w1.grownBy w2 (some w.heap.size)) => ((Below.refl w.heap.size w).grown hgrow1 (Nat.le_refl _) (fun k hk => by cases hk)).grown h (hgrow1.size) (fun k hk => by cases hk; exact Nat.le_refl _))
  go_wp2_with (first
    | (at_builtin; refine wpList_append_fits_any _ rfl (.tmp 55) (.tmp 56) 23 rfl w.heap.size 27 i0 3 Try.underlying23 hi hz1 w.heap.size 0 l.length [] rfl hown2 ao l.length cap (l.flatMap encRw) rfl H3.out H4.out (cells_below H5.out (HBw.out _ hgrow2)) encRw_one (by omega) ?_; intro w3 hown3 hgrow3)
    | (at_builtin; refine wpList_append_fits_any _ rfl (.tmp 53) (.tmp 54) 23 rfl w.heap.size 27 i0 3 Try.underlying23 hi hz1 w.heap.size 0 l.length [] rfl hown1 none 0 0 [] rfl rfl (fun _ => ⟨rfl, rfl⟩) (fun _ e => by cases e) (by simp) (by omega) ?_; intro w2 hown2 hgrow2))
  have hB2 := HBw.out _ hgrow2
  go_ret
  exact ⟨_, rfl, by unfold OwnR; simpa using hown3, hB2.grown hgrow3 hB2.size (fun k hk => by cases hk; exact Nat.le_refl _)⟩

theorem OneSer.below {w w' : World} {u : Value} {n st : Nat} {v : Int} (h : OneSer w u n st v) (hb : Below w.heap.size w w') : OneSer w' u n st v := by
  unfold OneSer at *
  by_cases h0 : n = 0
  · rw [if_pos h0] at *; exact h
  · rw [if_neg h0] at *
    obtain ⟨g, off, c, vs, hu, hg, c0, c1, hs⟩ := h
    exact ⟨g, off, c, vs, hu, Nat.lt_of_lt_of_le hg hb.size, (hb.cell (p := ⟨g, off, none⟩) hg).trans c0, (hb.cell (p := ⟨g, off + 1, none⟩) hg).trans c1, hs.below hb⟩

set_option maxRecDepth 100000 in
set_option maxHeartbeats 2000000 in
theorem rows_any (u : Value) (n st : Nat) (v : Int) (w : World) (hu : OneSer w u n st v) (hn : n ≤ 90) (hst : st ≤ 300) :
    Calls Try.prog 20 #[u] w fun e w' => ∃ r, e = .returned r ∧ OwnR 27 3 encRw w' w.heap.size r (rowsL n st v) ∧ Below w.heap.size w w' := by
  by_cases h0 : n = 0
  · subst h0
    unfold OneSer at hu
    rw [if_pos rfl] at hu
    obtain ⟨a, c, rfl⟩ := hu
    go_enter Try.func20, Try.ntmps20
    go_wp2_with fail
    refine wp_loop_rounds 1 ?_
    rw [rounds_succ]
    go_wp2_with fail
    go_ret
    exact ⟨_, rfl, OwnR.nil _ _, Below.refl _ _⟩
  · unfold OneSer at hu
    rw [if_neg h0] at hu
    obtain ⟨g, off, c, vs, rfl, hg, c0, c1, hs⟩ := hu
    have HS := Lib.hid hs
    obtain ⟨va, vc, rfl, hvc, hvm, -⟩ := hs
    rw [smpL_len] at HS c1 hvc
    go_enter Try.func20, Try.ntmps20
    go_wp2_with fail
    refine wp_loop_rounds 2 ?_
    rw [rounds_succ]
    go_wp2_with fail
    have HB1 := Lib.hid (show Below w.heap.size w (w.alloc (.cells #[.int .i64 7, .slice va n vc] 74)) from (Below.refl _ _).alloc (Nat.le_refl _) _)
    have HX1 := Lib.hid (show (w.alloc (.cells #[.int .i64 7, .slice va n vc] 74)).heap[w.heap.size]? = some (.cells #[.int .i64 7, .slice va n vc] 74 (0, 0)) from heap_alloc_new _ _)
    go_loopw [18, 6] (fun x y wr => ∃ k : Nat, x = .int .i64 k ∧ k ≤ n ∧ OwnR 27 3 encRw wr (w.heap.size + 1) y (rowsL k st v) ∧ Below (w.heap.size + 1) (w.alloc (.cells #[.int .i64 7, .slice va n vc] 74)) wr)
      (fun x y wr => n - (intOf x).toNat)
    case atStart => exact ⟨0, rfl, Nat.zero_le _, OwnR.nil _ _, Below.refl _ _⟩
    case round =>
      obtain ⟨k, rfl, hk, ho, hbl⟩ := hrel
      have HO := Lib.hid ho
      have HB := Lib.hid hbl
      have HBw := Lib.hid (HB1.out.trans (hbl.mono (Nat.le_succ _)))
      have hwl : w.heap.size < wr.heap.size := Nat.lt_of_lt_of_le (by simp) hbl.size
      have hx := (hbl.block _ (Nat.lt_succ_self _)).trans HX1.out
      have y0 : wr.cell? ⟨w.heap.size, 0, none⟩ = some (.int .i64 7) := by rw [cell_of_row wr _ _ _ _ _ hx]; rfl
      have y1 : wr.cell? ⟨w.heap.size, 1, none⟩ = some (.slice va n vc) := by rw [cell_of_row wr _ _ _ _ _ hx]; rfl
      clear ho hbl hx
      by_cases hlt : k < n
      · obtain ⟨b, off', hb', hbs, d0, d1⟩ := (HS.out.below HBw.out).at_ (i := k) (by rw [smpL_len]; exact hlt)
        subst hb'
        rw [smpL_get hlt] at d0 d1
        have hkb : k * st ≤ 90 * 300 := Nat.mul_le_mul (by omega) hst
        simp only at d0 d1
        have HSucc := Lib.hid (rowsL_succ k st v)
        have hlen := rowsL_len k st v
        generalize k * st = x0 at *
        go_wp2_with (at_builtin; refine app_row _ rfl (.tmp 22) (.tmp 30) rfl (w.heap.size + 1) _ (rowsL k st v) ((x0 : Int), 7, v) (wr.heap.size + 1) rfl (by rfl) (heap_alloc2_new ..) (HO.out.below (((Below.refl _ _).alloc (Nat.le_refl _) _).alloc (by simp) _)) (by simp; omega) (by omega) ?_; intro g' cap' w2 hown' hbl'; rw [hlen] at hown'; have HO2 := Lib.hid hown'; have HB2 := Lib.hid hbl'; clear hown' hbl')
        go_roundw
        case rel => exact ⟨k + 1, by go_num, by omega, by rw [HSucc.out]; exact HO2.out, (HB.out.trans (((Below.refl _ _).alloc (by omega) _).alloc (by simp; omega) _)).trans HB2.out⟩
        case measure => simp [intOf]; omega
      · have hke : n = k := by omega
        subst hke
        have hlen := rowsL_len n st v
        clear hlt
        go_wp2_with fail
        refine (mergeRow_any _ _ (rowsL n st v) _ _ HO.out (by omega)).mono ?_
        rintro e w3 ⟨r, rfl, ho3, hb3⟩
        have HO3 := Lib.hid ho3
        have HB3 := Lib.hid hb3
        obtain ⟨ra, rc, rfl, -⟩ := ho3.src
        clear ho3 hb3
        rw [hlen] at HO3
        go_wp2_with fail
        rw [rounds_succ]
        go_wp2_with fail
        go_ret
        exact ⟨_, rfl, HO3.out.base (Nat.le_of_lt hwl), HBw.out.trans (HB3.out.mono (Nat.le_of_lt hwl))⟩

end Go.Proofs.Ytnjcelilljniaaa

/-
  convert.right of rows of even times: true.
-/
namespace Go.Proofs.Ytnjcelilljniaaa
open Go.RowKit

/-- A slice of rows, as it is read. -/
def RowsV (w : World) (v : Value) (l : List Rw) : Prop :=
  ∃ a cap, v = .slice a l.length cap ∧ l.length ≤ cap ∧ cap ≤ 9223372036854775807 ∧ (l ≠ [] → ∃ b off, a = some ⟨b, off, none⟩ ∧ b < w.heap.size ∧ ∀ i, i < l.length →
    w.cell? ⟨b, off + i * 3, none⟩ = some (.int .i64 (l.getD i (0, 0, 0)).1) ∧ w.cell? ⟨b, off + i * 3 + 1, none⟩ = some (.int .i64 (l.getD i (0, 0, 0)).2.1) ∧ w.cell? ⟨b, off + i * 3 + 2, none⟩ = some (.int .i64 (l.getD i (0, 0, 0)).2.2))
theorem RowsV.below {w w' : World} {v : Value} {l : List Rw} (h : RowsV w v l) (hb : Below w.heap.size w w') : RowsV w' v l := by
  obtain ⟨a, cap, hv, h1, h2, h3⟩ := h
  refine ⟨a, cap, hv, h1, h2, fun hx => ?_⟩
  obtain ⟨b, off, ha, hlt, hc⟩ := h3 hx
  exact ⟨b, off, ha, Nat.lt_of_lt_of_le hlt hb.size, fun i hi => ⟨(hb.cell (p := ⟨b, off + i * 3, none⟩) hlt).trans (hc i hi).1, (hb.cell (p := ⟨b, off + i * 3 + 1, none⟩) hlt).trans (hc i hi).2.1, (hb.cell (p := ⟨b, off + i * 3 + 2, none⟩) hlt).trans (hc i hi).2.2⟩⟩
theorem RowsV.at_ {w : World} {a : Option Addr} {n cap : Nat} {l : List Rw} (h : RowsV w (.slice a n cap) l) {i : Nat} (hi : i < l.length) :
    ∃ b off, a = some ⟨b, off, none⟩ ∧ b < w.heap.size ∧ w.cell? ⟨b, off + i * 3, none⟩ = some (.int .i64 (l.getD i (0, 0, 0)).1) ∧ w.cell? ⟨b, off + i * 3 + 1, none⟩ = some (.int .i64 (l.getD i (0, 0, 0)).2.1) ∧ w.cell? ⟨b, off + i * 3 + 2, none⟩ = some (.int .i64 (l.getD i (0, 0, 0)).2.2) := by
  obtain ⟨a', c, hv, h1, h2, h3⟩ := h
  obtain ⟨b, off, hb, hlt, hc⟩ := h3 (by rintro rfl; simp at hi)
  simp only [Value.slice.injEq] at hv
  exact ⟨b, off, by rw [hv.1, hb], hlt, hc i hi⟩
theorem OwnR.rowsV {t : Nat} {w : World} {base : Nat} {v : Value} {l : List Rw} (h : OwnR t 3 encRw w base v l) : RowsV w v l := by
  obtain ⟨a, cap, hv, h1, h2, h3⟩ := OwnR.open_ (enc := encRw) (k := 3) (fun _ => rfl) (0, 0, 0) h
  refine ⟨a, cap, hv, h1, h2, fun hx => ?_⟩
  obtain ⟨g, ha, _, hlt, hc⟩ := h3 (List.length_pos_iff.2 hx)
  exact ⟨g, 0, ha, hlt, fun i hi => ⟨by rw [Nat.zero_add]; exact hc i hi 0 (by omega), by rw [Nat.zero_add]; exact hc i hi 1 (by omega), by rw [Nat.zero_add]; exact hc i hi 2 (by omega)⟩⟩
theorem RowsV.shape {w : World} {v : Value} {n st : Nat} {x : Int} (h : RowsV w v (rowsL n st x)) : ∃ a cap, v = .slice a n cap ∧ n ≤ cap ∧ cap ≤ 9223372036854775807 := by
  obtain ⟨a, cap, hv, h1, h2, -⟩ := h
  rw [rowsL_len] at hv h1
  exact ⟨a, cap, hv, h1, h2⟩

set_option maxRecDepth 100000 in
set_option maxHeartbeats 2000000 in
theorem right_any (u : Value) (n st : Nat) (v : Int) (w : World) (hu : RowsV w u (rowsL n st v)) (hn : n ≤ 90) (hst1 : 1 ≤ st) (hst : st ≤ 300) :
    Calls Try.prog 15 #[u] w fun e w' => e = .returned (.bool true) ∧ Below w.heap.size w w' := by
  have HU := Lib.hid hu
  obtain ⟨a, cap, rfl, hc, hm⟩ := hu.shape
  clear hu
  go_enter Try.func15, Try.ntmps15
  go_wp2_with fail
  go_loopw [8] (fun x wr => ∃ k : Nat, x = .int .i64 k ∧ k ≤ n ∧ Below w.heap.size w wr) (fun x wr => n - (intOf x).toNat)
  case atStart => exact ⟨0, rfl, Nat.zero_le _, Below.refl _ _⟩
  case round =>
    obtain ⟨k, rfl, hk, hbl⟩ := hrel
    have HB := Lib.hid hbl
    have HU1 := Lib.hid (HU.out.below hbl)
    clear hbl
    by_cases hlt : k < n
    · obtain ⟨b, off, rfl, hbs, c0, c1, c2⟩ := HU1.out.at_ (i := k) (by rw [rowsL_len]; exact hlt)
      rw [rowsL_get hlt] at c0 c1 c2
      have hkb : k * st ≤ 90 * 300 := Nat.mul_le_mul (by omega) hst
      simp only at c0 c1 c2
      by_cases hk0 : k = 0
      · subst hk0
        simp only [Nat.zero_mul, Nat.add_zero, Int.natCast_zero] at c0 c1 c2
        simp only [Int.natCast_zero]
        go_wp2_with fail
        go_roundw
        case rel => exact ⟨1, rfl, by omega, HB.out.alloc HB.out.size _⟩
        case measure => simp [intOf]; omega
      · obtain ⟨b', off', hb', -, d0, d1, d2⟩ := HU1.out.at_ (i := k - 1) (by rw [rowsL_len]; omega)
        simp only [Option.some.injEq, Addr.mk.injEq, and_true] at hb'
        obtain ⟨rfl, rfl⟩ := hb'
        rw [rowsL_get (by omega)] at d0 d1 d2
        simp only at d0 d1 d2
        have hmul : k * st = (k - 1) * st + st := by
          conv => lhs; rw [show k = (k - 1) + 1 by omega]
          exact Nat.succ_mul _ _
        have hkm : ((k : Int) - 1) = ((k - 1 : Nat) : Int) := by omega
        have HKM := Lib.hid hkm
        obtain ⟨j, hj⟩ : ∃ j, j = k - 1 := ⟨_, rfl⟩
        rw [← hj] at d0 d1 d2 hmul hkm
        have hjk : j < k := by omega
        clear hj HKM
        generalize j * st = x0 at *
        generalize k * st = x1 at *
        have hlx : (x0 : Int) < x1 := by omega
        clear hmul
        go_wp2_with fail
        go_roundw
        case rel => exact ⟨k + 1, by go_num, by omega, (HB.out.alloc HB.out.size _).alloc (by have := HB.out.size; simp; omega) _⟩
        case measure => simp [intOf]; omega
    · have hke : n = k := by omega
      subst hke
      go_wp2_with fail
      go_ret
      exact ⟨rfl, HB.out⟩

end Go.Proofs.Ytnjcelilljniaaa
