/-
  TopChunks: the walk of the law.
-/
import Derived.Test.YtnjcelilljniaaaTLen
import Derived.Test.YtnjcelilljniaaaTConv
import Derived.ChangeSame
namespace Go.Proofs.Ytnjcelilljniaaa
open Go.RowKit

theorem app_smpH (w : World) {ops : Array Oper} {rest : List Oper} {o : Oper} {a : Act} {Q : Exit → Act → World → Prop} (hgd : o.guard = none) (s x : Operand)
    (ho : o.op = .call { callee := .builtin .append, args := #[s, x], argTypes := #[22, 22] })
    (base : Nat) (v : Value) (l : List Smp) (y : Smp) (g : Nat) (hs : a.eval s = v) (hx : a.eval x = .slice (some ⟨g, 0, none⟩) 1 1)
    (hnew : w.heap[g]? = some (.cells #[.int .i64 y.1, .int .i64 y.2] 25 (0, 0))) (hown : OwnR 25 2 encS w base v l) (hbase : base ≤ w.heap.size) (hlen : l.length ≤ 1000000000)
    (h : ∀ g' cap w', OwnR 25 2 encS w' base (.slice (some ⟨g', 0, none⟩) (l.length + 1) cap) (l ++ [y]) → w.grownBy w' v.ownBlock → wpList Try.prog ops Q rest (a.put o.dst (.slice (some ⟨g', 0, none⟩) (l.length + 1) cap)) w') :
    wpList Try.prog ops Q (o :: rest) a w := by
  obtain ⟨i0, hi, hz0, hz1, hz2⟩ := info_parts infoSmp
  refine wpList_append_lies w hgd s x 22 ho base 25 i0 _ 2 16 Try.underlying22 hi hz0 hz1 hz2 rfl (by decide) v l.length _ hs hown
    ⟨g, 0, none⟩ 1 1 [.int .i64 y.1, .int .i64 y.2] hx rfl (World.news_of_block hnew) ?_ (by omega) (by simp only [maxLen]; omega) (by omega) hbase _ rfl ?_
  · intro u hu
    simp at hu; rcases hu with rfl | rfl <;> rfl
  · intro g' cap w' h1 h2 _ _
    refine h g' cap w' ?_ h2
    unfold OwnR
    simpa [encS] using h1
theorem app_rowG (w : World) {ops : Array Oper} {rest : List Oper} {o : Oper} {a : Act} {Q : Exit → Act → World → Prop} (hgd : o.guard = none) (s x : Operand)
    (ho : o.op = .call { callee := .builtin .append, args := #[s, x], argTypes := #[23, 23] })
    (base : Nat) (v : Value) (l : List Rw) (y : Rw) (g : Nat) (hs : a.eval s = v) (hx : a.eval x = .slice (some ⟨g, 0, none⟩) 1 1)
    (hnew : w.heap[g]? = some (.cells #[.int .i64 y.1, .int .i64 y.2.1, .int .i64 y.2.2] 27 (0, 0))) (hown : OwnR 27 3 encRw w base v l) (hbase : base ≤ w.heap.size) (hlen : l.length ≤ 1000000000)
    (h : ∀ g' cap w', OwnR 27 3 encRw w' base (.slice (some ⟨g', 0, none⟩) (l.length + 1) cap) (l ++ [y]) → w.grownBy w' v.ownBlock → wpList Try.prog ops Q rest (a.put o.dst (.slice (some ⟨g', 0, none⟩) (l.length + 1) cap)) w') :
    wpList Try.prog ops Q (o :: rest) a w := by
  obtain ⟨i0, hi, hz0, hz1, hz2⟩ := info_parts infoRow
  refine wpList_append_lies w hgd s x 23 ho base 27 i0 _ 3 24 Try.underlying23 hi hz0 hz1 hz2 rfl (by decide) v l.length _ hs hown
    ⟨g, 0, none⟩ 1 1 [.int .i64 y.1, .int .i64 y.2.1, .int .i64 y.2.2] hx rfl (World.news_of_block hnew) ?_ (by omega) (by simp only [maxLen]; omega) (by omega) hbase _ rfl ?_
  · intro u hu
    simp at hu; rcases hu with rfl | rfl | rfl <;> rfl
  · intro g' cap w' h1 h2 _ _
    refine h g' cap w' ?_ h2
    unfold OwnR
    simpa [encRw] using h1
theorem OwnR.apart {α β : Type} {t u k j : Nat} {e : α → List Value} {f : β → List Value} {w : World} {b c : Nat} {x y : Value} {l : List α} {m : List β} (h : OwnR t k e w b x l) (g : OwnR u j f w c y m) (hne : t ≠ u) : x.ownBlock = none ∨ x.ownBlock ≠ y.ownBlock := by
  rcases h.2 with ⟨rfl, _⟩ | ⟨p, cap, cur, rfl, _, hh, _⟩
  · exact .inl rfl
  · rcases g.2 with ⟨rfl, _⟩ | ⟨q, cap', cur', rfl, _, hh', _⟩
    · exact .inr (fun e => by cases e)
    · refine .inr fun e => ?_
      have e' : p = q := by simpa [Value.ownBlock] using e
      subst e'
      rw [hh] at hh'
      cases hh'
      exact hne rfl
/-- What a round of the law's loop knows. -/
structure TcI (k st : Nat) (v : Int) (lv rv : Value) (w w' : World) : Prop where
  ol : OwnR 25 2 encS w' w.heap.size lv (smpL k st v)
  ow : OwnR 27 3 encRw w' w.heap.size rv (rowsL k st v)
  be : Below w.heap.size w w'

set_option maxRecDepth 100000 in
set_option maxHeartbeats 2000000 in
theorem topChunks_walk (n b : Nat) (v : Int) (w : World) (hn : n < 256) (hb : b < 256) (hv0 : -9223372036854775808 ≤ v) (hv1 : v ≤ 9223372036854775807) :
    Calls Try.prog 3 #[.int .u8 n, .int .u8 b, .int .i64 v] w fun e w' => e = .returned (.bool true) ∧ Below w.heap.size w w' := by
  obtain ⟨m, hm⟩ : ∃ m, m = n % 90 := ⟨_, rfl⟩
  obtain ⟨st, hst⟩ : ∃ st, st = 1 + b := ⟨_, rfl⟩
  have hm89 : m ≤ 89 := by omega
  have hst1 : 1 ≤ st := by omega
  have hst2 : st ≤ 300 := by omega
  have hw1 : IntKind.i64.wrap (n : Int) = n := IntWalk.i64_in _ (by omega)
  have hw2 : IntKind.i64.wrap (b : Int) = b := IntWalk.i64_in _ (by omega)
  have hmi : (n : Int) % 90 = (m : Int) := by omega
  have hmt : (n : Int).tmod 90 = (m : Int) := by rw [Int.tmod_eq_emod_of_nonneg (by omega)]; exact hmi
  have hsi : (1 : Int) + (b : Int) = (st : Int) := by omega
  have HM := Lib.hid hm
  have HSt := Lib.hid hst
  clear hm hst
  have HO0 := Lib.hid (show OwnR 25 2 encS ((w.alloc (.cells #[] 25)).alloc (.cells #[] 27)) w.heap.size (.slice (some ⟨w.heap.size, 0, none⟩) 0 0) (smpL 0 st v) from
    (OwnR.fresh w (Nat.le_refl _)).below ((Below.refl _ _).alloc (Nat.le_refl _) _))
  have HP0 := Lib.hid (show OwnR 27 3 encRw ((w.alloc (.cells #[] 25)).alloc (.cells #[] 27)) w.heap.size (.slice (some ⟨w.heap.size + 1, 0, none⟩) 0 0) (rowsL 0 st v) from by
    have := OwnR.fresh (α := Rw) (t := 27) (k := 3) (enc := encRw) (w.alloc (.cells #[] 25)) (base := w.heap.size) (by simp)
    rwa [World.size_alloc] at this)
  have HB0 := Lib.hid (show Below w.heap.size w ((w.alloc (.cells #[] 25)).alloc (.cells #[] 27)) from ((Below.refl _ _).alloc (Nat.le_refl _) _).alloc (by simp) _)
  go_enter Try.func3, Try.ntmps3
  go_wp2_with fail
  go_loopw [9, 7, 8] (fun i lv rv wr => ∃ k : Nat, i = .int .i64 k ∧ k ≤ m ∧ TcI k st v lv rv w wr) (fun i _ _ _ => m - (intOf i).toNat)
  case atStart => exact ⟨0, rfl, Nat.zero_le _, HO0.out, HP0.out, HB0.out⟩
  case round =>
    clear HO0 HP0 HB0
    obtain ⟨k, rfl, hk, hI⟩ := hrel
    have HOl := Lib.hid hI.ol
    have HOr := Lib.hid hI.ow
    have HB := Lib.hid hI.be
    obtain ⟨la, lc, hla, hlc, hlm, -⟩ := hI.ol.src
    obtain ⟨ra, rc, hra, hrc, hrm, -⟩ := hI.ow.src
    rw [smpL_len] at hla hlc
    rw [rowsL_len] at hra hrc
    subst hla
    subst hra
    have hsz := hI.be.size
    have hl1 := smpL_len k st v
    have hl2 := rowsL_len k st v
    clear hI
    by_cases hlt : k < m
    · have hkb : k * st ≤ 89 * 300 := Nat.mul_le_mul (by omega) hst2
      have hmul : (k : Int) * (st : Int) = ((k * st : Nat) : Int) := by simp
      have HS1 := Lib.hid (smpL_succ k st v)
      have HS2 := Lib.hid (rowsL_succ k st v)
      generalize k * st = x0 at *
      have hwm : IntKind.i64.wrap ((k : Int) * (st : Int)) = (x0 : Int) := by rw [hmul]; exact IntWalk.i64_in _ (by omega)
      have HK2 := Lib.hid (fun g2 c2 w2 (ho : OwnR 25 2 encS w2 w.heap.size (.slice (some ⟨g2, 0, none⟩) (k + 1) c2) (smpL k st v ++ [((x0 : Int), v)])) (hg : (wr.alloc (.cells #[.int .i64 x0, .int .i64 v] 25)).grownBy w2 (Value.slice la k lc).ownBlock) =>
        show w.heap.size ≤ w2.heap.size ∧ OwnR 27 3 encRw w2 w.heap.size (.slice ra k rc) (rowsL k st v) ∧ Below w.heap.size w w2 from by
          have hb : Below wr.heap.size wr (wr.alloc (.cells #[.int .i64 x0, .int .i64 v] 25)) := (Below.refl _ _).alloc (Nat.le_refl _) _
          have h1 := HOr.out.below hb
          have h2 := HOl.out.below hb
          refine ⟨by have := hg.size; simp at this; omega, World.ownsRow.kept h1 hg (h1.apart h2 (by decide)), (HB.out.trans (hb.mono hsz)).grown hg (by simp; omega) (fun j hj => (World.ownsRow.lt HOl.out j hj).1)⟩)
      have HK3 := Lib.hid (fun g2 c2 w2 g3 c3 w3 (ho : OwnR 25 2 encS w2 w.heap.size (.slice (some ⟨g2, 0, none⟩) (k + 1) c2) (smpL k st v ++ [((x0 : Int), v)])) (hr : OwnR 27 3 encRw w2 w.heap.size (.slice ra k rc) (rowsL k st v)) (hs : w.heap.size ≤ w2.heap.size) (hbw : Below w.heap.size w w2)
          (ho3 : OwnR 27 3 encRw w3 w.heap.size (.slice (some ⟨g3, 0, none⟩) (k + 1) c3) (rowsL k st v ++ [((x0 : Int), 7, v)])) (hg : (w2.alloc (.cells #[.int .i64 x0, .int .i64 7, .int .i64 v] 27)).grownBy w3 (Value.slice ra k rc).ownBlock) =>
        show OwnR 25 2 encS w3 w.heap.size (.slice (some ⟨g2, 0, none⟩) (k + 1) c2) (smpL k st v ++ [((x0 : Int), v)]) ∧ Below w.heap.size w w3 from by
          have hb : Below w2.heap.size w2 (w2.alloc (.cells #[.int .i64 x0, .int .i64 7, .int .i64 v] 27)) := (Below.refl _ _).alloc (Nat.le_refl _) _
          have h1 := ho.below hb
          have h2 := hr.below hb
          exact ⟨World.ownsRow.kept h1 hg (h1.apart h2 (by decide)), (hbw.trans (hb.mono hs)).grown hg (by simp; omega) (fun j hj => (World.ownsRow.lt hr j hj).1)⟩)
      go_wp2_with (first
        | (at_builtin; (refine app_smpH _ rfl (.tmp 29) (.tmp 37) rfl w.heap.size (.slice la k lc) (smpL k st v) ((x0 : Int), v) wr.heap.size rfl (by rfl) (heap_alloc_new ..) (HOl.out.below ((Below.refl _ _).alloc (Nat.le_refl _) _)) (by simp; omega) (by omega) ?_; intro g2 c2 w2 ho2 hg2; rw [hl1] at ho2; have HO2 := Lib.hid ho2; have HF2 := Lib.hid (HK2.out _ _ _ ho2 hg2); have hsz2 := HF2.out.1; clear ho2 hg2))
        | (at_builtin; (refine app_rowG _ rfl (.tmp 39) (.tmp 47) rfl w.heap.size (.slice ra k rc) (rowsL k st v) ((x0 : Int), 7, v) w2.heap.size rfl (by rfl) (heap_alloc_new ..) (HF2.out.2.1.below ((Below.refl _ _).alloc (Nat.le_refl _) _)) (by simp; omega) (by omega) ?_; intro g3 c3 w3 ho3 hg3; rw [hl2] at ho3; have HO3 := Lib.hid ho3; have HF3 := Lib.hid (HK3.out _ _ _ _ _ _ HO2.out HF2.out.2.1 hsz2 HF2.out.2.2 ho3 hg3); clear ho3 hg3)))
      go_roundw
      case rel => exact ⟨k + 1, by go_num, by omega, by rw [HS1.out]; exact HF3.out.1, by rw [HS2.out]; exact HO3.out, HF3.out.2⟩
      case measure => simp [intOf]; omega
    · have hke : k = m := by omega
      subst hke
      have HSm := Lib.hid HOl.out.samples
      have HRw := Lib.hid HOr.out.rowsV
      obtain ⟨hc1, hc2⟩ := encL_short k st v hm89 hv0 hv1
      have HE := Lib.hid (fun w' h => enc_any (.slice la k lc) k st v w' h (by omega) hst1 hst2 hv0 hv1)
      have HW0 := Lib.hid (fun w' h => write0_any (.slice ra k rc) k st v w' h (by omega) hst1 hst2 hv0 hv1)
      have HW1 := Lib.hid (fun w' h => write1_run (.slice ra k rc) k st v w' h (by omega) hst1 hst2 hv0 hv1)
      have HR0 := Lib.hid (fun w' => read0_any k st v w' (by omega) hst1 hst2 hv0 hv1)
      have HR1 := Lib.hid (fun w' => read1_any k st v w' (by omega) hst1 hst2 hv0 hv1)
      generalize encL k st v = C at *
      generalize majL k st v = M at *
      generalize runL k st v = R at *
      clear HOl HOr hlt hk
      go_wp2_with fail
      refine (HE.out _ HSm.out).mono ?_
      rintro e w2 ⟨rfl, hb2⟩
      have HB2 := Lib.hid (HB.out.trans (hb2.mono hsz))
      have HRw2 := Lib.hid (HRw.out.below hb2)
      clear hb2
      go_wp2_with fail
      refine (HW0.out _ HRw2.out).mono ?_
      rintro e w3 ⟨rfl, hb3⟩
      have HB3 := Lib.hid (HB2.out.trans (hb3.mono HB2.out.size))
      have HRw3 := Lib.hid (HRw2.out.below hb3)
      clear hb3
      go_wp2_with fail
      refine (HW1.out _ HRw3.out).mono ?_
      rintro e w4 ⟨rfl, hb4⟩
      have HB4 := Lib.hid (HB3.out.trans (hb4.mono HB3.out.size))
      have HRw4 := Lib.hid (HRw3.out.below hb4)
      clear hb4
      go_wp2_with fail
      refine (HR0.out _).mono ?_
      rintro e w5 ⟨x5, rfl, ho5, hb5⟩
      obtain ⟨xa, xc, rfl, -⟩ := ho5.shape
      have HB5 := Lib.hid (HB4.out.trans (hb5.mono HB4.out.size))
      have HRw5 := Lib.hid (HRw4.out.below hb5)
      have HX5 := Lib.hid ho5
      clear hb5 ho5
      go_wp2_with fail
      refine (HR1.out _).mono ?_
      rintro e w6 ⟨y6, rfl, ho6, hb6⟩
      obtain ⟨ya, yc, rfl, -⟩ := ho6.shape
      have HB6 := Lib.hid (HB5.out.trans (hb6.mono HB5.out.size))
      have HRw6 := Lib.hid (HRw5.out.below hb6)
      have HX6 := Lib.hid (HX5.out.below hb6)
      have HY6 := Lib.hid ho6
      clear hb6 ho6
      have HEq1 := Lib.hid (equal_any _ _ k _ w6 HX6.out HRw6.out hl2)
      go_wp2_with fail
      refine HEq1.out.mono ?_
      rintro e w7 ⟨rfl, hb7⟩
      have HB7 := Lib.hid (HB6.out.trans (hb7.mono HB6.out.size))
      have HEq2 := Lib.hid (equal_any _ _ k _ w7 (HY6.out.below hb7) (HRw6.out.below hb7) hl2)
      clear hb7
      go_wp2_with fail
      refine HEq2.out.mono ?_
      rintro e w8 ⟨rfl, hb8⟩
      have HB8 := Lib.hid (HB7.out.trans (hb8.mono HB7.out.size))
      clear hb8
      go_wp2_with fail
      go_ret
      exact ⟨by simp, HB8.out⟩

end Go.Proofs.Ytnjcelilljniaaa

/-
  The law TopChunks at its arguments, as they come in.
-/
namespace Go.Proofs.Ytnjcelilljniaaa
open Go.ChangeShapes Go.WideShapes Go.ChangeAt Go.RowKit

theorem wf_int {a : Int} (h : (Lit.int .i64 a).wf = true) : -9223372036854775808 ≤ a ∧ a ≤ 9223372036854775807 := by
  have h' : IntKind.i64.min ≤ a ∧ a ≤ 9223372036854775807 := by simpa [Lit.wf] using h
  have e : IntKind.i64.min = -9223372036854775808 := by rfl
  omega
theorem wf_u8 {a : Int} (h : (Lit.int .u8 a).wf = true) : 0 ≤ a ∧ a ≤ 255 := by
  have h' : IntKind.u8.min ≤ a ∧ a ≤ IntKind.u8.max := by simpa [Lit.wf] using h
  have e : IntKind.u8.min = 0 := by rfl
  have e2 : IntKind.u8.max = 255 := by rfl
  omega
theorem topC_walk (a b v : Int) (w : World) (ha : (Lit.int .u8 a).wf = true) (hb : (Lit.int .u8 b).wf = true) (hv : (Lit.int .i64 v).wf = true) :
    Calls Try.prog 3 #[.int .u8 a, .int .u8 b, .int .i64 v] w fun e w' => e = .returned (.bool true) ∧ Below w.heap.size w w' := by
  obtain ⟨a0, a1⟩ := wf_u8 ha
  obtain ⟨b0, b1⟩ := wf_u8 hb
  obtain ⟨v0, v1⟩ := wf_int hv
  obtain ⟨n, rfl⟩ : ∃ n : Nat, a = n := ⟨a.toNat, by omega⟩
  obtain ⟨m, rfl⟩ : ∃ n : Nat, b = n := ⟨b.toNat, by omega⟩
  exact topChunks_walk n m v w (by omega) (by omega) v0 v1

end Go.Proofs.Ytnjcelilljniaaa

/-
  TopChunks, for every input: the statement Rows.TopChunksSaid. Conditions: none.
-/
namespace Go.Proofs.Ytnjcelilljniaaa
open Go.ChangeShapes Go.WideShapes Go.ChangeAt Go.RowKit
open Go.ChangeMaps (open_string shut_string)
set_option linter.unusedVariables false

set_option maxRecDepth 100000 in
theorem topChunks_lifted (os : Os) (started : os.Started) (H : Type) (enc : TypeId × Value → H) :
    ReturnsInHanded {} Try.checked os 3 .any (Rows.topChunksSpec.pre6 enc Try.prog Try.f3 Rows.topChunksRow.domain false) (Rows.topChunksSpec.post enc Try.prog Try.f3 false true false false) := by
  refine returnsInHanded_of_change (C := Try.checked) own started (by kernel_rfl) Try.func3
    (ChangeSpec.witness6 (enc := enc) (C := Try.checked) false ⟨#[], #[.int .u8 0, .int .u8 0, .int .i64 0], []⟩ 8 (by kernel_rfl) (by kernel_rfl) (by kernel_rfl) (by kernel_rfl)) ?_
  intro W base args ds gs before hval0 hW hcnd _
  have hval : ∀ (j : Nat) t v, Try.f3.params[j]? = some t → args[j]? = some v → Value.okWide Try.prog W .any base t v := hval0
  have hW' := hW
  obtain ⟨p, q, hA0, hV, rfl, hfz, hnd⟩ := hW
  have hA : DataW.TrodAll enc Try.prog W 0 (fun _ => true) true Try.f3.params.toList args.toList ds p := hA0
  rw [Try.params3] at hA hval
  obtain ⟨v0, vs0, d0, ds0, p0, q0, hargs, rfl, rfl, h0, r0⟩ := trodAll_cons hA
  obtain ⟨v1, vs1, d1, ds1, p1, q1, rfl, rfl, rfl, h1, r1⟩ := trodAll_cons r0
  obtain ⟨v2, vs2, d2, ds2, p2, q2, rfl, rfl, rfl, h2, r2⟩ := trodAll_cons r1
  obtain ⟨rfl, rfl, rfl⟩ := trodAll_nil r2
  obtain rfl : args = #[v0, v1, v2] := by cases args; simp_all
  obtain ⟨rfl, rfl⟩ := trodVars_none hV
  have k0 := h0
  have lt0 : ∀ x ∈ p0, x.block < W.heap.size := by obtain ⟨m, hm⟩ := k0; exact DataW.trod_lt m _ _ _ hm
  obtain ⟨a0, rfl, hd0, hp0, w0⟩ := open_int Try.underlying5 (hval 0 5 v0 rfl rfl) h0
  have k1 := h1
  have lt1 : ∀ x ∈ p1, x.block < W.heap.size := by obtain ⟨m, hm⟩ := k1; exact DataW.trod_lt m _ _ _ hm
  obtain ⟨a1, rfl, hd1, hp1, w1⟩ := open_int Try.underlying5 (hval 1 5 v1 rfl rfl) h1
  have k2 := h2
  have lt2 : ∀ x ∈ p2, x.block < W.heap.size := by obtain ⟨m, hm⟩ := k2; exact DataW.trod_lt m _ _ _ hm
  obtain ⟨a2, rfl, hd2, hp2, w2⟩ := open_int Try.underlying3 (hval 2 3 v2 rfl rfl) h2
  clear hA0 hval0
  refine (topC_walk a0 a1 a2 W w0 w1 w2).mono fun e W' ⟨he, bel⟩ => ?_
  subst he
  exact ⟨_, rfl, _, _, _, [], _, [], hW', trodAll_mk1 (shut_bool Try.underlying4 _), (trodAll_cons_mk (Below.trod laidOut (by kernel_rfl) (of_decide_eq_true (by kernel_rfl)) k0 bel lt0) (trodAll_cons_mk (Below.trod laidOut (by kernel_rfl) (of_decide_eq_true (by kernel_rfl)) k1 bel lt1) (trodAll_cons_mk (Below.trod laidOut (by kernel_rfl) (of_decide_eq_true (by kernel_rfl)) k2 bel lt2) trodAll_mk0))), rfl, bel.frame _, fun h => by cases h⟩

theorem topChunks_holds : Rows.TopChunksSaid :=
  OpenClaim.holds_of_wide 3 Try.f3 rfl rfl rfl rfl rfl rfl rfl ⟨rfl, rfl, rfl, rfl, rfl⟩ rfl rfl rfl rfl rfl (by kernel_rfl) Try.func3 (by kernel_rfl)
    (of_decide_eq_true (by kernel_rfl)) (by unfold Func.isWrapper; first | (rw [if_pos (by decide +kernel)]; kernel_rfl) | (rw [if_neg (by decide +kernel)]; exact ⟨rfl, rfl⟩))
    (fun os started H enc _ => topChunks_lifted os started H enc)
#print axioms topChunks_holds
end Go.Proofs.Ytnjcelilljniaaa
