/-
  LabelSorts: the walk through the statement.
-/
import Derived.Test.YtamdkmcdleilpaaSame
import Derived.Test.YtamdkmcdleilpaaRSort
namespace Go.Proofs.Ytamdkmcdleilpaa
open Go.RowKit

/-- append where nothing comes. -/
theorem run_app_none (w : World) (base : Nat) (ty : TypeId) (v : Value) (l : List Lab) (hown : OwnR 43 2 encLab w base v l) (c : Nat) :
    (Builtin.append_ #[22, 22] ty #[v, .slice none 0 c]).run Try.prog w = .ok v w := by
  obtain ⟨i0, hi, hz0, hz1, hz2⟩ := info_parts infoLab
  have ht := run_underlying (P := Try.prog) (w := w) Try.underlying22
  rcases hown.2 with ⟨rfl, h0⟩ | ⟨g, cap, cur, rfl, _, _, hnc, _⟩
  · simp [Builtin.append_, ht, sizeOf, typeInfo, hi, Builtin.lenOf, Builtin.firstCells]
  · simp [Builtin.append_, ht, sizeOf, typeInfo, hi, Builtin.lenOf, Builtin.firstCells, hnc, storeCells]

/-- 'was = append(was, l...)', l nil or not. -/
theorem app_labs (w : World) {ops : Array Oper} {rest : List Oper} {o : Oper} {a : Act} {Q : Exit → Act → World → Prop} (hgd : o.guard = none) (s x : Operand)
    (ho : o.op = .call { callee := .builtin .append, args := #[s, x], argTypes := #[22, 22] })
    (base : Nat) (v : Value) (l : List Lab) (u : Value) (ms : List Lab) (hs : a.eval s = v) (hx : a.eval x = u) (hown : OwnR 43 2 encLab w base v l) (hu : Labels w u ms)
    (hbase : base ≤ w.heap.size) (hlen : l.length + ms.length ≤ 1000000)
    (h : ∀ v' w', OwnR 43 2 encLab w' base v' (l ++ ms) → Below base w w' → wpList Try.prog ops Q rest (a.put o.dst v') w') :
    wpList Try.prog ops Q (o :: rest) a w := by
  have hu' := hu
  obtain ⟨A, cap, rfl, h1, h2, h3⟩ := hu
  cases A with
  | none =>
    have hn : ms = [] := by
      cases ms with
      | nil => rfl
      | cons x r => obtain ⟨b, off, hx, _⟩ := h3 (by simp); cases hx
    subst hn
    refine wpList_plain hgd fun K hK => ?_
    unfold Oper.wp execOp
    simp only [ho, resolve, invoke, builtin, Sem.run_bind, Sem.run_pure, Result.andThen_ok, List.map_toArray, List.map_cons, List.map_nil, hs, hx, List.length_nil, run_app_none w base o.type v l hown cap]
    exact hK _ _ (h v w (by rw [List.append_nil]; exact hown) (Below.refl _ _ |>.mono hbase))
  | some ad =>
    obtain ⟨i0, hi, hz0, hz1, hz2⟩ := info_parts infoLab
    refine wpList_append_own_at _ hgd s x 22 ho base 43 i0 _ 2 32 Try.underlying22 hi hz0 hz1 hz2 rfl (by decide) v l.length _ hs hown ad ms.length cap (ms.flatMap encLab) hx (flat_len (enc := encLab) (k := 2) (fun _ => rfl) ms) (labels_news hu') encLab_one (by simp only [maxLen]; omega) (by omega) hbase ?_
    intro v' w4 hown4 hg4 _ _
    refine h v' w4 (by unfold OwnR; simpa using hown4) ((Below.refl _ _).grown hg4 hbase (fun k hk => (hown.lt k hk).1))

/-- The first of a name. -/
def fL (name : Bytes) (ls : List Lab) : Option Lab := ls.find? (fun x => x.1 == name)
theorem getL_fL (ls : List Lab) (name : Bytes) : getL ls name = ((fL name ls).map (·.2)).getD [] := by
  induction ls with
  | nil => rfl
  | cons x r ih =>
    simp only [getL, fL, List.find?_cons]
    cases h : x.1 == name with
    | true => simp
    | false => simpa [fL] using ih
theorem fL_app (name : Bytes) (a b : List Lab) : fL name (a ++ b) = (fL name a).or (fL name b) := by simp [fL, List.find?_append]
theorem fL_one (name : Bytes) : ∀ (S : List Lab) (y : Lab), SortedL ltE S → fL name (mergeL ltE S [y]) = fL name (S ++ [y]) := by
  intro S y
  induction S with
  | nil => intro _; rw [mergeL_nil_left]; rfl
  | cons x r ih =>
    intro hs
    obtain ⟨h1, h2⟩ := List.pairwise_cons.1 hs
    cases hl : ltE y x with
    | false =>
      rw [mergeL_no ltE r [] hl, List.cons_append]
      have := ih h2
      simp only [fL, List.find?_cons] at this ⊢
      rw [this]
    | true =>
      rw [mergeL_yes ltE r [] hl, mergeL_nil_right, show y :: x :: r = [y] ++ (x :: r) from rfl, fL_app, fL_app]
      by_cases hy : (y.1 == name) = true
      · have hn : fL name (x :: r) = none := by
          unfold fL
          refine List.find?_eq_none.2 fun z hz => ?_
          have hz' : ltE y z = true := by
            rcases List.mem_cons.1 hz with rfl | hz
            · exact hl
            · exact ltE_weak.lt_of_le hl (h1 z hz)
          intro e
          have e1 : y.1 = z.1 := by rw [beq_iff_eq.1 hy, beq_iff_eq.1 e]
          have : bl y.1 z.1 = true := hz'
          rw [e1, bl_weak.irr] at this
          cases this
        rw [hn]; simp
      · have hn : fL name [y] = none := by unfold fL; simp [hy]
        rw [hn]; simp
theorem fL_fold (name : Bytes) : ∀ (l s : List Lab), SortedL ltE s → fL name (l.foldl (fun s y => mergeL ltE s [y]) s) = fL name (s ++ l) := by
  intro l
  induction l with
  | nil => intro s _; simp
  | cons y r ih =>
    intro s hs
    rw [List.foldl_cons, ih _ (mergeL_sorted ltE_weak _ _ hs (List.pairwise_singleton _ _)), fL_app, fL_one name s y hs, ← fL_app]
    simp
/-- A name has the first value of that name, in order or not. -/
theorem getL_sort (ls : List Lab) (name : Bytes) : getL (sortL ltE ls) name = getL ls name := by
  rw [getL_fL, getL_fL]
  unfold sortL
  rw [fL_fold name ls [] List.Pairwise.nil]; rfl

set_option maxRecDepth 100000 in
set_option maxHeartbeats 4000000 in
theorem sorts_walk (v : Value) (ls : List Lab) (name : Bytes) (w : World) (hv : Labels w v ls) :
    Calls Try.prog 11 #[v, .string (bs name)] w fun e w' => e = .returned (.bool true) ∧ Below w.heap.size w w' := by
  have HV := Lib.hid ((St.start w).add (fun w' => Labels w' v ls) (fun w' hb => hv.below hb))
  have HN := Lib.hid (fun w => name_any [97] w)
  rw [show nameB [97] = true by decide] at HN
  have HY := Lib.hid (fun v w (h : Labels w v ls) => get_any v ls name w h)
  have HYr := Lib.hid (fun v w (h : Labels w v ls) => refGet_any v ls name w h)
  have HYs := Lib.hid (fun v w (h : Labels w v (sortL ltE ls)) => get_any v (sortL ltE ls) name w h)
  rw [getL_sort] at HYs
  generalize getL ls name = q at HY HYr HYs
  have HSm := Lib.hid (show ∀ l : List Lab, (l == l) = true from fun l => by simp)
  go_enter Try.func11, Try.ntmps11
  go_wp2_with fail
  refine (heavy4_any v ls w (HV.out.get 0 rfl)).mono ?_
  rintro e w1 ⟨b1, rfl, Ha, hb⟩
  have HV1 := Lib.hid (HV.out.step hb)
  have HA := Lib.hid Ha
  clear Ha hb
  cases b1 with
  | true =>
    go_wp2_with fail
    go_ret
    exact ⟨rfl, HV1.out.bel⟩
  | false =>
    have hl := HA.out rfl
    by_cases hn : 1024 < name.length
    · go_wp2_with fail
      go_ret
      exact ⟨rfl, HV1.out.bel⟩
    · have HV2 := Lib.hid (HV1.out.alloc (.cells #[] 43))
      have HSo := Lib.hid (fun w h => sort_any v ls w h (by omega))
      have HRs := Lib.hid (fun w h => refSort_any v ls w h (by omega))
      have hll : ls.length ≤ 2048 := by omega
      go_wp2_with (at_builtin; refine app_labs _ rfl (.tmp 15) (.tmp 16) rfl w1.heap.size _ [] v ls rfl rfl (ownL_fresh w1 (Nat.le_refl _)) (HV2.out.get 0 rfl) (by simp) (by simp; omega) ?_; intro v3 w3 hown3 hb3; have HV3 := Lib.hid ((HV1.out.step ((((Below.refl _ w1).alloc (Nat.le_refl _) _)).trans hb3)).add (fun w' => Labels w' v3 ls) (fun w' hb => hown3.labels.below hb)); clear hown3 hb3)
      refine (HSo.out _ (HV3.out.get 1 rfl)).mono ?_
      rintro e w4 ⟨u4, rfl, h4, hb4⟩
      have HV4 := Lib.hid ((HV3.out.step hb4).add (fun w' => Labels w' u4 (sortL ltE ls)) (fun w' hb => h4.below hb))
      clear h4 hb4
      go_wp2_with fail
      refine (HRs.out _ (HV4.out.get 2 rfl)).mono ?_
      rintro e w5 ⟨u5, rfl, h5, hb5⟩
      have HV5 := Lib.hid ((HV4.out.step hb5).add (fun w' => Labels w' u5 (sortL ltE ls)) (fun w' hb => h5.below hb))
      clear h5 hb5
      go_wp2_with fail
      refine (same_any u4 u5 _ _ _ (HV5.out.get 1 rfl) (HV5.out.get 0 rfl)).mono ?_
      rintro e w6 ⟨rfl, hb6⟩
      have HV6 := Lib.hid (HV5.out.step hb6)
      clear hb6
      rw [HSm.out]
      go_wp2_with fail
      refine (same_any v v3 _ _ _ (HV6.out.get 3 rfl) (HV6.out.get 2 rfl)).mono ?_
      rintro e w7 ⟨rfl, hb7⟩
      have HV7 := Lib.hid (HV6.out.step hb7)
      clear hb7
      rw [HSm.out]
      go_wp2_with fail
      refine (HY.out v _ (HV7.out.get 3 rfl)).mono ?_
      rintro e w8 ⟨rfl, hb8⟩
      have HV8 := Lib.hid (HV7.out.step hb8)
      clear hb8
      go_wp2_with fail
      refine (HYr.out v _ (HV8.out.get 3 rfl)).mono ?_
      rintro e w9 ⟨rfl, rfl⟩
      go_wp2_with fail
      refine (HYs.out u4 _ (HV8.out.get 1 rfl)).mono ?_
      rintro e w10 ⟨rfl, hb10⟩
      have HV10 := Lib.hid (HV8.out.step hb10)
      clear hb10
      go_wp2_with fail
      refine (HY.out v _ (HV10.out.get 3 rfl)).mono ?_
      rintro e w11 ⟨rfl, hb11⟩
      have HV11 := Lib.hid (HV10.out.step hb11)
      clear hb11
      go_wp2_with fail
      refine (HN.out _).mono ?_
      rintro e w12 ⟨rfl, hb12⟩
      have HV12 := Lib.hid (HV11.out.step hb12)
      clear hb12
      go_wp2_with fail
      go_ret
      exact ⟨rfl, HV12.out.bel⟩

end Go.Proofs.Ytamdkmcdleilpaa
