/-
  The walks of the reference's And, Not, Or.
-/
import Derived.Test.YtlbnofaehkdlpaaMerge6
import Derived.Test.YtlbnofaehkdlpaaReads6
namespace Go.Proofs.Ytlbnofaehkdlpaa
open Go.RowKit

/-- 'append(out, src...)', src any slice of ints that can be read. -/
theorem wpList_appS (w : World) {ops : Array Oper} {rest : List Oper} {o : Oper} {a : Act} {Q : Exit → Act → World → Prop} (hg : o.guard = none) (s x : Operand)
    (ho : o.op = .call { callee := .builtin .append, args := #[s, x], argTypes := #[22, 22] })
    (base : Nat) (v u : Value) (xs ys : List Int) (hs : a.eval s = v) (hx : a.eval x = u) (hu : Ints w u ys)
    (hown : Own w base v xs) (hbase : base ≤ w.heap.size) (hlen : xs.length + ys.length ≤ 1000000000000)
    (h : ∀ v' w', Own w' base v' (xs ++ ys) → Below base w w' → wpList Try.prog ops Q rest (a.put o.dst v') w') :
    wpList Try.prog ops Q (o :: rest) a w := by
  obtain ⟨i0, hi, hz0, hz1, hz2⟩ := info_parts infoI
  obtain ⟨ao, c, rfl, h1, h2, h3⟩ := hu
  cases ao with
  | none =>
    have hy : ys = [] := by
      rcases Classical.em (ys = []) with h | h
      · exact h
      · obtain ⟨_, _, e, _⟩ := h3 h; cases e
    subst hy
    refine wpList_plain hg fun K hK => ?_
    have hrun : (Builtin.append_ #[22, 22] o.type #[v, .slice none ([] : List Int).length c]).run Try.prog w = .ok v w := by
      rcases hown.2 with ⟨rfl, h0⟩ | ⟨g, cap, cur, rfl, _, _, hnc, _⟩
      · simp [Builtin.append_, run_underlying Try.underlying22, sizeOf, typeInfo, hi, Builtin.lenOf, Builtin.firstCells]
      · simp [Builtin.append_, run_underlying Try.underlying22, sizeOf, typeInfo, hi, Builtin.lenOf, Builtin.firstCells, hnc, storeCells]
    unfold Oper.wp
    simp [execOp, ho, resolve, invoke, builtin, hs, hx, Result.andThen]
    simp only [List.length_nil] at hrun
    rw [hrun]
    exact hK _ _ (h v w (by simpa using hown) (Below.refl _ _))
  | some ad =>
    refine wpList_append_own _ hg s x 22 ho base 3 i0 (.int .i64 0) 1 8 Try.underlying22 hi hz0 hz1 hz2 rfl (by decide) v xs.length (xs.map (Value.int .i64)) hs hown
      ad ys.length c (ys.map (Value.int .i64)) hx (by simp) ?_ (ints_oneCell _ _) (by simp only [maxLen]; omega) (by omega) hbase ?_
    · intro j u hj
      have hlt : j < ys.length := by
        have := (List.getElem?_eq_some_iff.1 hj).1
        simpa using this
      obtain ⟨b, off, e, _, hc⟩ := h3 (by intro h; rw [h] at hlt; simp at hlt)
      obtain rfl := Option.some.inj e
      rw [Addr.add_lit, hc j hlt]
      rw [← hj]; simp [List.getD, List.getElem?_eq_getElem hlt]
    · intro v' w' h1 h2 _
      refine h v' w' ?_ ((Below.refl _ _).grown h2 hbase (fun k hk => (hown.block k hk).1))
      unfold Own
      simpa using h1

/-- 's[k:]', under one name. -/
theorem from_run {w : World} {l : List Int} {v : Value} (h : Ints w v l) (k : Nat) (hk : k ≤ l.length) :
    ∃ u, (∀ w', (Instr.sliceAt 22 v (some (.int .i64 k)) none none).run Try.prog w' = .ok u w') ∧ Ints w u (l.drop k) := by
  obtain ⟨a, c, rfl, h1, h2, h3⟩ := h
  refine ⟨.slice (if c = k then a else a.map (·.add (k * 1))) (l.length - k) (c - k), fun w' => ?_, ?_⟩
  · rw [run_sliceAt_slice _ _ _ _ _ _ rfl, run_slice_l _ _ _ _ _ rfl _ _ (by omega) (by omega)]
    rfl
  · refine ⟨_, c - k, by rw [List.length_drop], by rw [List.length_drop]; omega, by omega, fun hl => ?_⟩
    have hlt : k < l.length := by
      rcases Nat.lt_or_ge k l.length with h | h
      · exact h
      · exact absurd (List.drop_eq_nil_of_le h) hl
    obtain ⟨b, off, rfl, hb, hc⟩ := h3 (by intro h; rw [h] at hlt; simp at hlt)
    refine ⟨b, off + k, by rw [if_neg (by omega)]; simp [Addr.add_lit], hb, fun i hi => ?_⟩
    rw [List.length_drop] at hi
    rw [Nat.add_assoc, hc (k + i) (by omega)]
    simp [List.getD]

/-! ### And, Not -/
def Keep (f : Int → Bool) (xs : List Int) (k : Nat) : List Int := (xs.take k).filter f
theorem Keep_yes {f : Int → Bool} {xs : List Int} {k : Nat} (hk : k < xs.length) (h : f (xs.getD k 0) = true) : Keep f xs (k + 1) = Keep f xs k ++ [xs.getD k 0] := by
  rw [getD_eq hk] at h ⊢
  unfold Keep
  rw [List.take_add_one, List.getElem?_eq_getElem hk, List.filter_append]
  simp [h]
theorem Keep_no {f : Int → Bool} {xs : List Int} {k : Nat} (hk : k < xs.length) (h : f (xs.getD k 0) = false) : Keep f xs (k + 1) = Keep f xs k := by
  rw [getD_eq hk] at h
  unfold Keep
  rw [List.take_add_one, List.getElem?_eq_getElem hk, List.filter_append]
  simp [h]
theorem Keep_le (f : Int → Bool) (xs : List Int) (k : Nat) : (Keep f xs k).length ≤ xs.length := Nat.le_trans (List.length_filter_le _ _) (by simp; omega)
theorem Keep_all (f : Int → Bool) (xs : List Int) : Keep f xs xs.length = xs.filter f := by simp [Keep]

set_option maxRecDepth 100000 in
set_option maxHeartbeats 1000000 in
theorem refAnd_any (v u : Value) (xs ys : List Int) (w : World) (hv : Ints w v xs) (hu : Ints w u ys) (hlen : xs.length ≤ 1000000000000) :
    Calls Try.prog 15 #[v, u] w fun e w' => ∃ v', e = .returned v' ∧ Own w' w.heap.size v' (xs.filter (hasB ys)) ∧ Below w.heap.size w w' := by
  have HU := Lib.hid hu
  obtain ⟨a, cap, rfl, h1, h2, h3⟩ := hv
  have H3 := Lib.hid h3
  clear hu h3
  go_enter Try.func15, Try.ntmps15
  go_wp2_with fail
  go_loopw [5, 6] (fun o i wr => ∃ k : Nat, k ≤ xs.length ∧ i = .int .i64 k ∧ Own wr w.heap.size o (Keep (hasB ys) xs k) ∧ Below w.heap.size w wr)
    (fun _ i _ => xs.length - (intOf i).toNat)
  case atStart => exact ⟨0, Nat.zero_le _, rfl, Own.made _ _ (Nat.le_refl _), (Below.refl _ _).alloc (Nat.le_refl _) _⟩
  case round =>
    obtain ⟨k, hk, rfl, hown, hbel⟩ := hrel
    have HU' := Lib.hid (HU.out.below hbel)
    by_cases hlt : k < xs.length
    · obtain ⟨b, off, rfl, hb, hcell⟩ := H3.out (by intro h; rw [h] at hlt; simp at hlt)
      have hx : wr.cell? ⟨b, off + k, none⟩ = some (.int .i64 (xs.getD k 0)) := (hbel.cell (by exact hb)).trans (hcell k hlt)
      have HY := Lib.hid (fun h => Keep_yes (f := hasB ys) hlt h)
      have HN := Lib.hid (fun h => Keep_no (f := hasB ys) hlt h)
      have hle := Keep_le (hasB ys) xs k
      have hsz := hbel.size
      clear hcell
      generalize xs.getD k 0 = x at *
      generalize Keep (hasB ys) xs k = out at *
      by_cases hh : hasB ys x = true
      · have HE := Lib.hid (HY.out hh)
        have HC := Lib.hid (fun w hu => hh ▸ refHas_any u ys x w hu)
        clear hh
        go_wp2_with (first | (go_at_call 21; refine (HC.out _ HU'.out).mono ?_; rintro e w' ⟨rfl, rfl⟩) | (at_builtin; refine wpList_app1 _ rfl (.tmp 20) (.tmp 25) rfl w.heap.size _ out x rfl rfl hown hsz (by omega) ?_; intro v' w1 hown1 hbel1 _))
        go_roundw
        case rel => exact ⟨k + 1, by omega, by go_num, by rw [HE.out]; exact hown1, hbel.trans hbel1⟩
        case measure => simp [intOf]; omega
      · have hh' : hasB ys x = false := by simpa using hh
        have HE := Lib.hid (HN.out hh')
        have HC := Lib.hid (fun w hu => hh' ▸ refHas_any u ys x w hu)
        clear hh hh'
        go_wp2_with (go_at_call 21; refine (HC.out _ HU'.out).mono ?_; rintro e w' ⟨rfl, rfl⟩)
        go_roundw
        case rel => exact ⟨k + 1, by omega, by go_num, by rw [HE.out]; exact hown, hbel⟩
        case measure => simp [intOf]; omega
    · have hkk : k = xs.length := by omega
      have HO := Lib.hid (show Own wr w.heap.size _ (xs.filter (hasB ys)) by rw [← Keep_all, ← hkk]; exact hown)
      clear hkk hown
      go_wp2_with fail
      go_ret
      exact ⟨_, rfl, HO.out, hbel⟩

set_option maxRecDepth 100000 in
set_option maxHeartbeats 1000000 in
theorem refNot_any (v u : Value) (xs ys : List Int) (w : World) (hv : Ints w v xs) (hu : Ints w u ys) (hlen : xs.length ≤ 1000000000000) :
    Calls Try.prog 17 #[v, u] w fun e w' => ∃ v', e = .returned v' ∧ Own w' w.heap.size v' (xs.filter (fun x => !hasB ys x)) ∧ Below w.heap.size w w' := by
  have HU := Lib.hid hu
  obtain ⟨a, cap, rfl, h1, h2, h3⟩ := hv
  have H3 := Lib.hid h3
  clear hu h3
  go_enter Try.func17, Try.ntmps17
  go_wp2_with fail
  go_loopw [5, 6] (fun o i wr => ∃ k : Nat, k ≤ xs.length ∧ i = .int .i64 k ∧ Own wr w.heap.size o (Keep (fun x => !hasB ys x) xs k) ∧ Below w.heap.size w wr)
    (fun _ i _ => xs.length - (intOf i).toNat)
  case atStart => exact ⟨0, Nat.zero_le _, rfl, Own.made _ _ (Nat.le_refl _), (Below.refl _ _).alloc (Nat.le_refl _) _⟩
  case round =>
    obtain ⟨k, hk, rfl, hown, hbel⟩ := hrel
    have HU' := Lib.hid (HU.out.below hbel)
    by_cases hlt : k < xs.length
    · obtain ⟨b, off, rfl, hb, hcell⟩ := H3.out (by intro h; rw [h] at hlt; simp at hlt)
      have hx : wr.cell? ⟨b, off + k, none⟩ = some (.int .i64 (xs.getD k 0)) := (hbel.cell (by exact hb)).trans (hcell k hlt)
      have HY := Lib.hid (fun h => Keep_yes (f := fun x => !hasB ys x) hlt h)
      have HN := Lib.hid (fun h => Keep_no (f := fun x => !hasB ys x) hlt h)
      have hle := Keep_le (fun x => !hasB ys x) xs k
      have hsz := hbel.size
      clear hcell
      generalize xs.getD k 0 = x at *
      generalize Keep (fun x => !hasB ys x) xs k = out at *
      by_cases hh : hasB ys x = true
      · have HE := Lib.hid (HN.out (by simp [hh]))
        have HC := Lib.hid (fun w hu => hh ▸ refHas_any u ys x w hu)
        clear hh
        go_wp2_with (go_at_call 21; refine (HC.out _ HU'.out).mono ?_; rintro e w' ⟨rfl, rfl⟩)
        go_roundw
        case rel => exact ⟨k + 1, by omega, by go_num, by rw [HE.out]; exact hown, hbel⟩
        case measure => simp [intOf]; omega
      · have hh' : hasB ys x = false := by simpa using hh
        have HE := Lib.hid (HY.out (by simp [hh']))
        have HC := Lib.hid (fun w hu => hh' ▸ refHas_any u ys x w hu)
        clear hh hh'
        go_wp2_with (first | (go_at_call 21; refine (HC.out _ HU'.out).mono ?_; rintro e w' ⟨rfl, rfl⟩) | (at_builtin; refine wpList_app1 _ rfl (.tmp 21) (.tmp 26) rfl w.heap.size _ out x rfl rfl hown hsz (by omega) ?_; intro v' w1 hown1 hbel1 _))
        go_roundw
        case rel => exact ⟨k + 1, by omega, by go_num, by rw [HE.out]; exact hown1, hbel.trans hbel1⟩
        case measure => simp [intOf]; omega
    · have hkk : k = xs.length := by omega
      have HO := Lib.hid (show Own wr w.heap.size _ (xs.filter (fun x => !hasB ys x)) by rw [← Keep_all, ← hkk]; exact hown)
      clear hkk hown
      go_wp2_with fail
      go_ret
      exact ⟨_, rfl, HO.out, hbel⟩

/-! ### Or -/
def mgo (a b : List Int) : List Int := mg (fun _ _ => true) (a.length + b.length) a b
theorem mg_nil : ∀ (n : Nat) (b : List Int), b.length ≤ n → mg (fun _ _ => true) n [] b = b := by
  intro n
  induction n with
  | zero => intro b h; rw [List.eq_nil_of_length_eq_zero (show b.length = 0 by omega)]; rfl
  | succ n ih =>
    intro b h
    cases b with
    | nil => rfl
    | cons y b => simp only [mg]; rw [ih b (by simp at h; omega)]; simp
theorem mgo_nil (b : List Int) : mgo [] b = b := mg_nil _ b (by simp)
theorem mgo_end (x : Int) (a : List Int) : mgo (x :: a) [] = x :: mgo a [] := by
  unfold mgo
  show mg _ (a.length + 1 + 0) _ _ = _
  rw [Nat.add_zero]; simp only [mg]; simp
theorem mgo_lt {x y : Int} (a b : List Int) (h : y < x) : mgo (x :: a) (y :: b) = y :: mgo (x :: a) b := by
  unfold mgo
  show mg _ (a.length + 1 + (b.length + 1)) _ _ = _
  rw [show a.length + 1 + (b.length + 1) = (a.length + 1 + b.length) + 1 by omega]
  simp only [mg]; rw [if_neg (by omega), if_pos h]; simp
theorem mgo_gt {x y : Int} (a b : List Int) (h : x < y) : mgo (x :: a) (y :: b) = x :: mgo a (y :: b) := by
  unfold mgo
  show mg _ (a.length + 1 + (b.length + 1)) _ _ = _
  rw [show a.length + 1 + (b.length + 1) = (a.length + (b.length + 1)) + 1 by omega]
  simp only [mg]; rw [if_pos h]; simp
theorem mgo_eq (x : Int) (a b : List Int) : mgo (x :: a) (x :: b) = x :: mgo a b := by
  unfold mgo
  show mg _ (a.length + 1 + (b.length + 1)) _ _ = _
  rw [show a.length + 1 + (b.length + 1) = (a.length + b.length + 1) + 1 by omega]
  simp only [mg]; rw [if_neg (by omega), if_neg (by omega)]
  rw [mg_more _ (a.length + b.length + 1) (a.length + b.length) a b (by omega) (by omega)]; simp
theorem drop_cons {l : List Int} {k : Nat} (h : k < l.length) : l.drop k = l.getD k 0 :: l.drop (k + 1) := by
  rw [List.drop_eq_getElem_cons h, getD_eq h]

set_option maxRecDepth 100000 in
set_option maxHeartbeats 2000000 in
theorem refOr_any (v u : Value) (xs ys : List Int) (w : World) (hv : Ints w v xs) (hu : Ints w u ys) (hlen : xs.length + ys.length ≤ 1000000000000) :
    Calls Try.prog 16 #[v, u] w fun e w' => ∃ v', e = .returned v' ∧ Own w' w.heap.size v' (mgo xs ys) ∧ Below w.heap.size w w' := by
  have HU := Lib.hid hu
  obtain ⟨a, cap, rfl, h1, h2, h3⟩ := hv
  obtain ⟨a', cap', rfl, h1', h2', h3'⟩ := hu
  have H3 := Lib.hid h3
  have H3' := Lib.hid h3'
  clear h3 h3'
  obtain ⟨goal, hgoal⟩ : ∃ g, g = mgo xs ys := ⟨_, rfl⟩
  rw [← hgoal]
  have HG := Lib.hid hgoal
  clear hgoal
  go_enter Try.func16, Try.ntmps16
  go_wp2_with fail
  go_loopw [5, 6, 7] (fun o j i wr => ∃ (k q : Nat) (out : List Int), k ≤ xs.length ∧ q ≤ ys.length ∧ i = .int .i64 k ∧ j = .int .i64 q ∧ Own wr w.heap.size o out ∧ Below w.heap.size w wr ∧ out.length ≤ k + q ∧ out ++ mgo (xs.drop k) (ys.drop q) = goal)
    (fun _ _ i _ => xs.length - (intOf i).toNat)
  case atStart => exact ⟨0, 0, [], Nat.zero_le _, Nat.zero_le _, rfl, rfl, Own.made _ _ (Nat.le_refl _), (Below.refl _ _).alloc (Nat.le_refl _) _, by simp, by rw [HG.out]; simp⟩
  case round =>
    obtain ⟨k, q, out, hk, hq, rfl, rfl, hown, hbel, hol, hg⟩ := hrel
    have Hg := Lib.hid hg
    clear hg
    by_cases hlt : k < xs.length
    · obtain ⟨b, off, rfl, hb, hcell⟩ := H3.out (by intro h; rw [h] at hlt; simp at hlt)
      have hxw : w.cell? ⟨b, off + k, none⟩ = some (.int .i64 (xs.getD k 0)) := hcell k hlt
      have HDX := Lib.hid (drop_cons hlt)
      clear hcell
      generalize xs.getD k 0 = x at *
      obtain ⟨wo, rfl⟩ : ∃ wo : World, wo = wr := ⟨_, rfl⟩
      go_wp2_with fail
      go_loopw [5, 6] (fun o j wr => ∃ (q : Nat) (out : List Int), q ≤ ys.length ∧ j = .int .i64 q ∧ Own wr w.heap.size o out ∧ Below w.heap.size w wr ∧ out.length ≤ k + q ∧ out ++ mgo (xs.drop k) (ys.drop q) = goal)
        (fun _ j _ => ys.length - (intOf j).toNat)
      case atStart => exact ⟨q, out, hq, rfl, hown, hbel, hol, Hg.out⟩
      case round =>
        clear hown hbel hol Hg hq
        obtain ⟨q, out, hq, rfl, hown, hbel, hol, hg⟩ := hrel
        have Hg := Lib.hid hg
        clear hg
        have hx : wr.cell? ⟨b, off + k, none⟩ = some (.int .i64 x) := (hbel.cell (by exact hb)).trans hxw
        have hsz := hbel.size
        by_cases hl2 : q < ys.length
        · obtain ⟨b', off', rfl, hb', hcell'⟩ := H3'.out (by intro h; rw [h] at hl2; simp at hl2)
          have hy : wr.cell? ⟨b', off' + q, none⟩ = some (.int .i64 (ys.getD q 0)) := (hbel.cell (by exact hb')).trans (hcell' q hl2)
          have HDY := Lib.hid (drop_cons hl2)
          clear hcell'
          generalize ys.getD q 0 = y at *
          rcases Int.lt_trichotomy y x with hyx | hyx | hyx
          · have hd : decide (y < x) = true := decide_eq_true hyx
            have HS := Lib.hid (show (out ++ [y]) ++ mgo (xs.drop k) (ys.drop (q + 1)) = goal by rw [← Hg.out, HDX.out, HDY.out, mgo_lt _ _ hyx]; simp)
            go_wp2_with fail
            go_quiet (fail)
            go_wp2_with (at_builtin; refine wpList_app1 _ rfl (.tmp 30) (.tmp 35) rfl w.heap.size _ out y rfl rfl hown hsz (by omega) ?_; intro v' w1 hown1 hbel1 _)
            go_roundw
            case rel => exact ⟨q + 1, _, by omega, by go_num, hown1, (below_drewN hbel _).trans hbel1, by simp; omega, HS.out⟩
            case measure => simp [intOf]; omega
          · subst hyx
            have hd : decide (y < y) = false := decide_eq_false (by omega)
            have HS := Lib.hid (show (out ++ [y]) ++ mgo (xs.drop (k + 1)) (ys.drop (q + 1)) = goal by rw [← Hg.out, HDX.out, HDY.out, mgo_eq]; simp)
            go_wp2_with fail
            go_quiet (fail)
            go_wp2_with fail
            go_quiet (fail)
            go_wp2_with (at_builtin; refine wpList_app1 _ rfl (.tmp 56) (.tmp 61) rfl w.heap.size _ out y rfl rfl hown hsz (by omega) ?_; intro v' w1 hown1 hbel1 _)
            go_roundw
            case rel => exact ⟨k + 1, q + 1, _, by omega, by omega, by go_num, by go_num, hown1, (below_drewN hbel _).trans hbel1, by simp; omega, HS.out⟩
            case measure => simp [intOf]; omega
          · have hd : decide (y < x) = false := decide_eq_false (by omega)
            have hd2 : (y == x) = false := by rw [beq_eq_false_iff_ne]; omega
            have HS := Lib.hid (show (out ++ [x]) ++ mgo (xs.drop (k + 1)) (ys.drop q) = goal by rw [← Hg.out, HDX.out, HDY.out, mgo_gt _ _ hyx]; simp)
            go_wp2_with fail
            go_quiet (fail)
            go_wp2_with fail
            go_quiet (fail)
            go_wp2_with (at_builtin; refine wpList_app1 _ rfl (.tmp 56) (.tmp 61) rfl w.heap.size _ out x rfl rfl hown hsz (by omega) ?_; intro v' w1 hown1 hbel1 _)
            go_roundw
            case rel => exact ⟨k + 1, q, _, by omega, by omega, by go_num, by go_num, hown1, (below_drewN hbel _).trans hbel1, by simp; omega, HS.out⟩
            case measure => simp [intOf]; omega
        · have HS := Lib.hid (show (out ++ [x]) ++ mgo (xs.drop (k + 1)) (ys.drop q) = goal by rw [← Hg.out, HDX.out, List.drop_eq_nil_of_le (show ys.length ≤ q by omega), mgo_end]; simp)
          go_wp2_with fail
          go_quiet (fail)
          go_wp2_with fail
          go_quiet (fail)
          go_wp2_with (at_builtin; refine wpList_app1 _ rfl (.tmp 56) (.tmp 61) rfl w.heap.size _ out x rfl rfl hown hsz (by omega) ?_; intro v' w1 hown1 hbel1 _)
          go_roundw
          case rel => exact ⟨k + 1, q, _, by omega, by omega, by go_num, by go_num, hown1, (below_drewN hbel _).trans hbel1, by simp; omega, HS.out⟩
          case measure => simp [intOf]; omega
    · have HS := Lib.hid (show out ++ ys.drop q = goal by rw [← Hg.out, List.drop_eq_nil_of_le (show xs.length ≤ k by omega), mgo_nil])
      obtain ⟨uu, hrun, hint⟩ := from_run (HU.out.below hbel) q hq
      have hsz := hbel.size
      go_wp2_with (at_builtin; refine wpList_appS _ rfl (.tmp 63) (.tmp 66) rfl w.heap.size _ _ out (ys.drop q) rfl rfl hint hown hsz (by rw [List.length_drop]; omega) ?_; intro v' w1 hown1 hbel1)
      go_ret
      exact ⟨_, rfl, by rw [← HS.out]; exact hown1, hbel.trans hbel1⟩

end Go.Proofs.Ytlbnofaehkdlpaa
