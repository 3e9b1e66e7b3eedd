/-
  What series.Put leans on: the sort of what came in backwards, rows written in place, a map of one key.
-/
import Derived.Test.YtnjcelilljniaaaTStable
import Derived.Test.YtnjcelilljniaaaTSer
import Derived.Test.YtnjcelilljniaaaTComp
import Derived.Test.YtnjcelilljniaaaTRev
import Derived.Test.YtnjcelilljniaaaTClone
import Derived.Test.YtnjcelilljniaaaTMap
import Derived.Deep.DrawnRows
namespace Go.Proofs.Ytnjcelilljniaaa
open Go.RowKit Go.Maps

theorem smpL_lt {n st : Nat} {v : Int} (hst : 1 ≤ st) : ∀ y ∈ smpL n st v, ltE y (((n * st : Nat) : Int), v) = true := by
  intro y hy
  simp only [smpL, List.mem_map, List.mem_range] at hy
  obtain ⟨i, hi, rfl⟩ := hy
  have : i * st < n * st := Nat.mul_lt_mul_of_pos_right hi (by omega)
  simp only [ltE, decide_eq_true_eq]
  omega
theorem sort_one (x : El) : sortL ltE [x] = [x] := by
  show mergeL ltE [] [x] = [x]
  rw [mergeL_nil_left]
theorem sort_rev {n st : Nat} {v : Int} (hst : 1 ≤ st) : sortL ltE (smpL n st v).reverse = smpL n st v := by
  induction n with
  | zero => rfl
  | succ n ih =>
    rw [smpL_succ, List.reverse_append, List.reverse_cons, List.reverse_nil, List.nil_append, sortL_append ltE_weak, ih, sort_one]
    have h := merge_one_front (lt := ltE) (r1 := smpL n st v) (r2 := []) (x := (((n * st : Nat) : Int), v)) (smpL_lt hst) (by simp)
    rw [List.append_nil] at h
    exact h
theorem smpL_rise {n st : Nat} {v : Int} (hst : 1 ≤ st) : RiseT (smpL n st v) := by
  intro i h1 h2
  rw [smpL_len] at h2
  rw [smpL_get h2, smpL_get (show i - 1 < n by omega)]
  have : (i - 1) * st < i * st := Nat.mul_lt_mul_of_pos_right (by omega) (by omega)
  simp only
  omega

theorem OwnR.rowE {w : World} {base : Nat} {v : Value} {l : List Smp} (h : OwnR 25 2 encS w base v l) (hne : l ≠ []) :
    ∃ g cap, v = .slice (some ⟨g, 0, none⟩) l.length cap ∧ base ≤ g ∧ RowE w g cap l := by
  rcases h.2 with ⟨rfl, h0⟩ | ⟨g, cap, cur, rfl, hg, hh, hn, hcap, hs, htake⟩
  · exact absurd (List.eq_nil_of_length_eq_zero h0) hne
  · exact ⟨g, cap, rfl, hg, hn, hcap, cur, hh, hs, htake⟩
theorem RowE.own {w : World} {g cap n : Nat} {l : List Smp} (h : RowE w g cap l) (hn : l.length = n) : OwnR 25 2 encS w g (.slice (some ⟨g, 0, none⟩) n cap) l := by
  obtain ⟨h1, h2, cur, h3, h4, h5⟩ := h
  subst hn
  exact ⟨flat_len (enc := encS) (k := 2) (fun _ => rfl) _, .inr ⟨g, cap, cur, rfl, Nat.le_refl _, h3, h1, h2, h4, h5⟩⟩
theorem RowE.samples {w : World} {g cap n : Nat} {l : List Smp} (h : RowE w g cap l) (hn : l.length = n) : Samples w (.slice (some ⟨g, 0, none⟩) n cap) l := (h.own hn).samples

set_option maxRecDepth 100000 in
theorem sortStable_any (g cap n : Nat) (l : List Smp) (w : World) (hr : RowE w g cap l) (hn : l.length = n) (hl : n ≤ 1000000) :
    Calls Try.prog 42 #[.slice (some ⟨g, 0, none⟩) n cap, cmpV] w fun e w' => e = .returned (.tuple #[]) ∧ RowE w' g cap (sortL ltE l) ∧ w.grownBy w' (some g) := by
  have HC := Lib.hid (stable_any n w hr hn.symm hl)
  have hnc : n ≤ cap := by rw [← hn]; exact hr.1
  clear hr hn
  unfold cmpV at HC ⊢
  go_enter Try.func42, Try.ntmps42
  go_wp2_with fail
  refine HC.out.mono ?_
  rintro e w3 ⟨rfl, h1, h2⟩
  have H1 := Lib.hid h1
  have H2 := Lib.hid h2
  clear h1 h2
  go_wp2_with fail
  go_end0
  exact ⟨rfl, H1.out, H2.out⟩

/-! A map with the one key 7. -/
abbrev k7 : Lit := .int .i64 7
def D7 (s : Value) : DataW Value := .map [(k7, .held s)]
theorem D7_at (s : Value) (z : DataW Value) : (D7 s).atKey k7 z = .held s := rfl
theorem D7_put0 (s : Value) : (DataW.map []).put k7 (.held s) = D7 s := rfl
theorem D7_put (s s' : Value) : (D7 s).put k7 (.held s') = D7 s' := rfl
theorem D7_has {s : Value} (z : Lit) : Maps.has (D7 s) z = true → z = k7 := by
  intro h
  simp only [Maps.has, D7, List.any_cons, List.any_nil, Bool.or_false] at h
  exact (WideAt.sameKey_eq h).symm
theorem key7 : keyOf Try.prog 3 (.int .i64 7) = some k7 := keyOf_int_mk Try.underlying3 (by decide)
theorem zeroSl (w : World) : (zeroValue 22).run Try.prog w = .ok (.slice none 0 0) w := by kernel_rfl
abbrev keyedInt : Keyed Try.prog 3 := int_keyed Try.underlying3


theorem next_one (w : World) {ops : Array Oper} {rest : List Oper} {o : Oper} {a : Act} {Q : Exit → Act → World → Prop} (hg : o.guard = none) (it : Operand) (hop : o.op = Op.next it false) (s : Value) (b r n cnt : Nat)
    (hit : a.eval it = .pointer (some ⟨r, 0, none⟩)) (h : w.ranges Try.prog 3 rawE b r n (D7 s) (Maps.has (D7 s)) cnt)
    (hK : ∀ w' cnt', w'.ranges Try.prog 3 rawE b r n (D7 s) (fun _ => false) cnt' → w.grownBy w' (some r) → w'.heap.size = w.heap.size → (Instr.entry (.pointer (some ⟨r, 0, none⟩))).run Try.prog w' = .ok (.tuple #[.int .i64 7, s]) w' →
      wpList Try.prog ops Q rest (a.put o.dst (.tuple #[.bool true, .int .i64 7, s])) w') :
    wpList Try.prog ops Q (o :: rest) a w := by
  refine wpList_next_ranges w hg it hop 3 keyedInt rawE (Value.int .i64) id (fun key kl hkey => by obtain ⟨x, rfl, _⟩ := Maps.keyOf_int_inv Try.underlying3 hkey; exact ⟨x, rfl⟩) (fun v y _ => ⟨v, rfl⟩) b r n (D7 s) _ cnt hit h ?_ ?_
  · intro _ hl
    have := hl k7
    cases this
  · intro x c kl y w' cnt' hkey hl hR hat hrg _ hgr hsz hen
    obtain rfl := D7_has kl hl
    obtain ⟨x', e1, e2, _⟩ := Maps.keyOf_int_inv Try.underlying3 hkey
    cases e1
    cases e2
    obtain rfl := rawE_any hR
    have e3 := hat .nil
    rw [D7_at] at e3
    injection e3 with e3
    subst e3
    refine hK w' cnt' ?_ hgr hsz hen
    have e4 : (fun z => Maps.has (D7 s) z && !z.sameKey k7) = fun _ => false := by
      funext z
      cases hz : Maps.has (D7 s) z with
      | false => rfl
      | true => obtain rfl := D7_has z hz; rfl
    rw [e4] at hrg
    exact hrg
theorem next_end (w : World) {ops : Array Oper} {rest : List Oper} {o : Oper} {a : Act} {Q : Exit → Act → World → Prop} (hg : o.guard = none) (it : Operand) (hop : o.op = Op.next it false) (D : DataW Value) (b r n cnt : Nat) (left : Lit → Bool)
    (hit : a.eval it = .pointer (some ⟨r, 0, none⟩)) (h : w.ranges Try.prog 3 rawE b r n D left cnt) (hl : ∀ z, left z = false)
    (hK : wpList Try.prog ops Q rest (a.put o.dst (.tuple #[.bool false])) w) :
    wpList Try.prog ops Q (o :: rest) a w := by
  refine wpList_next_ranges w hg it hop 3 keyedInt rawE (Value.int .i64) id (fun key kl hkey => by obtain ⟨x, rfl, _⟩ := Maps.keyOf_int_inv Try.underlying3 hkey; exact ⟨x, rfl⟩) (fun v y _ => ⟨v, rfl⟩) b r n D _ cnt hit h ?_ ?_
  · intro _ _; exact hK
  · intro x c kl y w' cnt' _ hlk
    rw [hl kl] at hlk; cases hlk

/-- What the round's region reads: the row x, the map at 7. -/
def RS (B b : Nat) (c0 c2 : Int) (w : World) : Prop :=
  w.cell? ⟨B, 0, none⟩ = some (.int .i64 c0) ∧ w.cell? ⟨B, 1, none⟩ = some (.int .i64 7) ∧ w.cell? ⟨B, 2, none⟩ = some (.int .i64 c2) ∧
  (Instr.lookup 95 (.map (some b)) (.int .i64 7) false).run Try.prog w = .ok (mapGet Try.prog 95 b (.int .i64 7) w) w ∧
  (∀ v, (Instr.mapUpdate 95 (.map (some b)) (.int .i64 7) v).run Try.prog w = .ok () (mapPut Try.prog 95 b (.int .i64 7) v w)) ∧ KeysOk Try.prog 3 w b
theorem RS.mk {B b : Nat} {c0 c2 : Int} {w : World} (h0 : w.cell? ⟨B, 0, none⟩ = some (.int .i64 c0)) (h1 : w.cell? ⟨B, 1, none⟩ = some (.int .i64 7)) (h2 : w.cell? ⟨B, 2, none⟩ = some (.int .i64 c2)) (hk : KeysOk Try.prog 3 w b) : RS B b c0 c2 w :=
  ⟨h0, h1, h2, hk.get keyedInt Try.underlying95 (zeroSl w) key7, fun v => (hk.put keyedInt Try.underlying95 key7 v).1, hk⟩
theorem RS.kept {B b : Nat} {c0 c2 : Int} {w w' : World} {row : Option Nat} (h : RS B b c0 c2 w) (hg : w.grownBy w' row) (h1 : some B ≠ row) (h2 : some b ≠ row) : RS B b c0 c2 w' := by
  obtain ⟨a0, a1, a2, _, _, hk⟩ := h
  have hc : ∀ i v, w.cell? ⟨B, i, none⟩ = some v → w'.cell? ⟨B, i, none⟩ = some v := fun i v hv => by
    rw [World.cell?_of_block (hg.block B (World.block_lt_of_cell? w _ hv) h1)]; exact hv
  exact RS.mk (hc 0 _ a0) (hc 1 _ a1) (hc 2 _ a2) (hk.kept hg h2)
theorem RS.put {B b : Nat} {c0 c2 : Int} {w : World} (h : RS B b c0 c2 w) (hne : B ≠ b) (v : Value) : RS B b c0 c2 (mapPut Try.prog 95 b (.int .i64 7) v w) := by
  obtain ⟨a0, a1, a2, _, _, hk⟩ := h
  obtain ⟨_, hk', hg⟩ := hk.put keyedInt Try.underlying95 key7 v
  generalize mapPut Try.prog 95 b (.int .i64 7) v w = W at *
  have hc : ∀ i v', w.cell? ⟨B, i, none⟩ = some v' → W.cell? ⟨B, i, none⟩ = some v' := fun i v' hv => by
    rw [World.cell?_of_block (hg.block B (World.block_lt_of_cell? w _ hv) (fun e => hne (Option.some.inj e)))]; exact hv
  exact RS.mk (hc 0 _ a0) (hc 1 _ a1) (hc 2 _ a2) hk'
theorem RS.heap {B b : Nat} {c0 c2 : Int} {w w' : World} (h : RS B b c0 c2 w) (hh : w'.heap = w.heap) : RS B b c0 c2 w' := by
  obtain ⟨a0, a1, a2, _, _, es, clock, hb, hk⟩ := h
  have hc : ∀ p, w'.cell? p = w.cell? p := fun p => by unfold World.cell?; rw [hh]
  exact RS.mk (by rw [hc]; exact a0) (by rw [hc]; exact a1) (by rw [hc]; exact a2) ⟨es, clock, by rw [hh]; exact hb, hk⟩

/-- The map of the samples that have come in so far. -/
def Grp (b k st : Nat) (v : Int) (w : World) : Prop :=
  ∃ s D, OMap Try.prog 3 w b k D ∧ D.atKey k7 (.held (.slice none 0 0)) = .held s ∧ (∀ s', D.put k7 (.held s') = D7 s') ∧ OwnR 25 2 encS w (b + 1) s (smpL k st v) ∧ (k = 0 → D = .map []) ∧ (k ≠ 0 → D = D7 s)

end Go.Proofs.Ytnjcelilljniaaa

/-
  series.Put of rows of one series: the loop that groups them (what its region does).
-/
namespace Go.Proofs.Ytnjcelilljniaaa
open Go.RowKit Go.Maps
attribute [local go_sem ↓] Go.wp_at_zero Go.wp_at_succ

theorem grp_step {b k st n : Nat} {v : Int} {w w1 : World} {s : Value} {D : DataW Value} {g cap : Nat} (hm : OMap Try.prog 3 w b k D) (hput : ∀ s', D.put k7 (.held s') = D7 s') (hs : OwnR 25 2 encS w (b + 1) s (smpL k st v))
    (hk : k ≤ n) (hn : n ≤ 90) (hgr : w.grownBy w1 s.ownBlock) (ho : w1.ownsRow (b + 1) 25 2 (.slice (some ⟨g, 0, none⟩) (k + 1) cap) (k + 1) ((smpL k st v).flatMap encS ++ [.int .i64 ((k * st : Nat) : Int), .int .i64 v])) :
    Grp b (k + 1) st v (mapPut Try.prog 95 b (.int .i64 7) (.slice (some ⟨g, 0, none⟩) (k + 1) cap) w1) ∧ w1.grownBy (mapPut Try.prog 95 b (.int .i64 7) (.slice (some ⟨g, 0, none⟩) (k + 1) cap) w1) (some b) := by
  have hne : some b ≠ s.ownBlock := fun e => by have := (World.ownsRow.lt hs b e.symm).1; omega
  have hm1 : OMap Try.prog 3 w1 b k D := World.ownsMap.kept hm hgr hne
  have hp := hm1.put keyedInt Try.underlying95 (by simp only [maxLen]; omega) key7 (.slice (some ⟨g, 0, none⟩) (k + 1) cap)
  have hg := (hm1.keysOk.put keyedInt Try.underlying95 key7 (.slice (some ⟨g, 0, none⟩) (k + 1) cap)).2.2
  rw [hput] at hp
  refine ⟨⟨_, D7 _, hp, D7_at _ _, D7_put _, ?_, fun e => by omega, fun _ => rfl⟩, hg⟩
  have ho' : OwnR 25 2 encS w1 (b + 1) (.slice (some ⟨g, 0, none⟩) (k + 1) cap) (smpL (k + 1) st v) := by
    unfold OwnR
    rw [smpL_len, smpL_succ, List.flatMap_append]
    simpa [encS] using ho
  refine World.ownsRow.kept ho' hg (.inr fun e => ?_)
  have := (World.ownsRow.lt ho' b e).1
  omega


/-- 'l = append(l, x)': one series. -/
theorem app_ser (w : World) {ops : Array Oper} {rest : List Oper} {o : Oper} {a : Act} {Q : Exit → Act → World → Prop} (hgd : o.guard = none) (s x : Operand)
    (ho : o.op = .call { callee := .builtin .append, args := #[s, x], argTypes := #[51, 51] })
    (base : Nat) (v : Value) (l : List Value) (y : Value) (g : Nat) (hs : a.eval s = v) (hx : a.eval x = .slice (some ⟨g, 0, none⟩) 1 1)
    (hnew : w.heap[g]? = some (.cells #[.int .i64 7, y] 74 (0, 0))) (hy : y.oneCell' = true) (hown : OwnR 74 2 encSer w base v l) (hbase : base ≤ w.heap.size) (hlen : l.length ≤ 1000000000)
    (h : ∀ g' cap w', OwnR 74 2 encSer w' base (.slice (some ⟨g', 0, none⟩) (l.length + 1) cap) (l ++ [y]) → Below base w w' → wpList Try.prog ops Q rest (a.put o.dst (.slice (some ⟨g', 0, none⟩) (l.length + 1) cap)) w') :
    wpList Try.prog ops Q (o :: rest) a w := by
  obtain ⟨i0, hi, hz0, hz1, hz2⟩ := info_parts infoSer
  refine wpList_append_lies w hgd s x 51 ho base 74 i0 _ 2 32 Try.underlying51 hi hz0 hz1 hz2 rfl (by decide) v l.length _ hs hown
    ⟨g, 0, none⟩ 1 1 [.int .i64 7, y] hx rfl (World.news_of_block hnew) ?_ (by omega) (by simp only [maxLen]; omega) (by omega) hbase _ rfl ?_
  · intro u hu
    simp at hu; rcases hu with rfl | rfl
    · rfl
    · exact hy
  · intro g' cap w' h1 h2 _ _
    refine h g' cap w' ?_ ((Below.refl _ _).grown h2 hbase (fun k hk => (hown.lt k hk).1))
    unfold OwnR
    simpa [encSer] using h1

theorem RowE.kept {w w' : World} {g cap : Nat} {l : List El} {row : Option Nat} (h : RowE w g cap l) (hg : w.grownBy w' row) (hne : some g ≠ row) : RowE w' g cap l := by
  have hlt := h.lt
  obtain ⟨h2, h3, cur, h4, h5, h6⟩ := h
  exact ⟨h2, h3, cur, (hg.block g hlt hne).trans h4, h5, h6⟩
/-- One series that the call owns. -/
theorem OwnR.oneSer {w : World} {base : Nat} {u y : Value} (h : OwnR 74 2 encSer w base u [y]) :
    ∃ g cap, u = .slice (some ⟨g, 0, none⟩) 1 cap ∧ 1 ≤ cap ∧ cap ≤ 9223372036854775807 ∧ base ≤ g ∧ g < w.heap.size ∧ w.cell? ⟨g, 0, none⟩ = some (.int .i64 7) ∧ w.cell? ⟨g, 1, none⟩ = some y ∧ w.frozen? ⟨g, 1, none⟩ = false := by
  rcases h.2 with ⟨_, h0⟩ | ⟨g, cap, cur, rfl, hg, hh, hn, hcap, hs, htake⟩
  · simp at h0
  · have hc : ∀ j, j < 2 → w.cell? ⟨g, j, none⟩ = (encSer y)[j]? := by
      intro j hj
      have h3 := flat_at (enc := encSer) (k := 2) (fun _ => rfl) (.slice none 0 0) [y] 0 j (by simp) hj
      rw [Nat.zero_mul, Nat.zero_add] at h3
      rw [cell_of_row w g _ cur _ (0, 0) hh, ← show ([y].getD 0 (.slice none 0 0)) = y from rfl, ← h3, ← htake, List.getElem?_take, if_pos (by simp; omega)]
      simp
    exact ⟨g, cap, rfl, by simpa using hn, by simp only [maxLen] at hcap; omega, hg, lt_of_heap hh, hc 0 (by omega), hc 1 (by omega), Lib.frozen_of_heap hh 1⟩

theorem oneSer_set {w : World} {g g2 cap cap2 n st base : Nat} {v : Int} {y : Value} (h0 : n ≠ 0) (hg : g < w.heap.size) (c0 : w.cell? ⟨g, 0, none⟩ = some (.int .i64 7)) (c1 : w.cell? ⟨g, 1, none⟩ = some y)
    (ho : OwnR 25 2 encS w base (.slice (some ⟨g2, 0, none⟩) n cap2) (smpL n st v)) (hb : g < base) :
    OneSer (w.setCell ⟨g, 1, none⟩ (.slice (some ⟨g2, 0, none⟩) n cap2)) (.slice (some ⟨g, 0, none⟩) 1 cap) n st v := by
  unfold OneSer
  rw [if_neg h0]
  have hk : OwnR 25 2 encS (w.setCell ⟨g, 1, none⟩ (.slice (some ⟨g2, 0, none⟩) n cap2)) base (.slice (some ⟨g2, 0, none⟩) n cap2) (smpL n st v) :=
    World.ownsRow.kept ho (gb_setE (gb_refl w (some g)) 1 _) (.inr fun e => by have := (World.ownsRow.lt ho g e).1; omega)
  exact ⟨g, 0, cap, _, rfl, by simpa [World.setCell] using hg, (World.cell?_setCell_other w ⟨g, 1, none⟩ ⟨g, 0, none⟩ _ (by simp)).trans c0, World.cell?_setCell_same' _ _ _ (by rw [c1]; rfl), hk.samples⟩

end Go.Proofs.Ytnjcelilljniaaa
