/-
  label.Print, strings.Join's answer handed in.
-/
import Derived.Test.YtamdkmcdleilpaaJoin1
import Derived.Test.YtamdkmcdleilpaaOwnS
import Derived.Test.YtamdkmcdleilpaaChk
import Derived.Test.YtamdkmcdleilpaaQuote
import Derived.Test.YtamdkmcdleilpaaLarge
namespace Go.Proofs.Ytamdkmcdleilpaa
open Go.RowKit

theorem keep2 {b : Nat} {c0 c1 : Value} {w w' : World} (h : w.cell? ⟨b, 0, none⟩ = some c0 ∧ w.cell? ⟨b, 1, none⟩ = some c1) (hb : Below w.heap.size w w') :
    w'.cell? ⟨b, 0, none⟩ = some c0 ∧ w'.cell? ⟨b, 1, none⟩ = some c1 := by
  have hlt : b < w.heap.size := World.block_lt_of_cell? w _ h.1
  exact ⟨(hb.cell (p := ⟨b, 0, none⟩) hlt).trans h.1, (hb.cell (p := ⟨b, 1, none⟩) hlt).trans h.2⟩
theorem cat_run (a b : Bytes) (h : a.length + b.length ≤ 1000000000000) (w : World) : (binOp .add 9 (.string (bs a)) (.string (bs b))).run Try.prog w = .ok (.string (bs (a ++ b))) w := by
  have h' : ¬ (9223372036854775807 < a.length + b.length) := by omega
  simp [go_sem, binOp, h']
def partOf (x : Lab) : Bytes := x.1 ++ 61 :: quoteL x.2
def printL (J : Bytes) (b : Bool) : Bytes := if b then [123] ++ J ++ [125] else []
theorem quoteL_len0 (a : Bytes) : 2 ≤ (quoteL a).length ∧ (quoteL a).length ≤ 2 * a.length + 2 := by
  have := escL_len a
  simp [quoteL]; omega
theorem part_take {ls : List Lab} {k : Nat} (h : k < ls.length) : (ls.take (k + 1)).map partOf = (ls.take k).map partOf ++ [partOf (ls.getD k ([], []))] := by
  have e : ls.take (k + 1) = ls.take k ++ [ls.getD k ([], [])] := by
    rw [List.take_add_one, List.getElem?_eq_getElem h]; simp [List.getD, List.getElem?_eq_getElem h]
  rw [e, List.map_append]; rfl

theorem lab_le {ls : List Lab} {k : Nat} (h : k < ls.length) : (ls.getD k ([], [])).1.length + (ls.getD k ([], [])).2.length ≤ wt ls := by
  have e : wt ls = wt (ls.take k) + wt (ls.drop k) := by
    unfold wt; rw [← List.sum_append, ← List.map_append, List.take_append_drop]
  rw [e, drop_lab h]
  simp [wt]; omega

theorem app_base {w wr w2 : World} {o : Obj} (h : w.heap.size ≤ wr.heap.size) (hb : Below wr.heap.size wr w2) : w.heap.size ≤ (w2.alloc o).heap.size := by
  have := hb.size
  simp; omega
theorem app_len {ls : List Lab} {k : Nat} (h : ls.length + wt ls ≤ 1000000) (hk : k < ls.length) : ((ls.take k).map partOf).length ≤ 1000000000000 := by
  simp; omega
theorem below_app {w wr w2 w4 : World} {o : Obj} (h : Below w.heap.size w wr) (hb : Below wr.heap.size wr w2) (h4 : Below w.heap.size (w2.alloc o) w4) : Below w.heap.size w w4 :=
  ((h.trans (hb.mono h.size)).trans (((Below.refl _ _).alloc (Nat.le_trans h.size hb.size) _))).trans h4

theorem own_ne {w : World} {base : Nat} {v : Value} {l : List Bytes} (h : OwnS w base v l) : some w.heap.size ≠ v.ownBlock := by
  intro e
  obtain ⟨a, cap, rfl, h1, h2, h3⟩ := h.open_
  rcases h.2 with ⟨hv, h0⟩ | ⟨g, cap', cur, hv, hg, hh, r⟩
  · rw [hv] at e; cases e
  · rw [hv] at e
    have hlt := (Array.getElem?_eq_some_iff.1 hh).1
    simp [Value.ownBlock] at e
    omega
def Far (w w' : World) (v : Value) : Prop := ∀ q : Addr, q.block < w.heap.size → some q.block ≠ v.ownBlock → w'.cell? q = w.cell? q
theorem keep_far {w w' : World} {v : Value} {b : Nat} {c0 c1 : Value} (hf : Far w w' v) (hb : some b ≠ v.ownBlock) (h : w.cell? ⟨b, 0, none⟩ = some c0 ∧ w.cell? ⟨b, 1, none⟩ = some c1) :
    w'.cell? ⟨b, 0, none⟩ = some c0 ∧ w'.cell? ⟨b, 1, none⟩ = some c1 := by
  have hlt : b < w.heap.size := World.block_lt_of_cell? w _ h.1
  exact ⟨(hf ⟨b, 0, none⟩ hlt hb).trans h.1, (hf ⟨b, 1, none⟩ hlt hb).trans h.2⟩

/-- 'row = append(row, y)', at a step of a region that draws; what lies elsewhere stays. -/
theorem step_str2 (w : World) {ops : Array Oper} {o : Oper} {a : Act} {K : Act → World → Prop} {Q : Exit → Act → World → Prop} {E : Prop} (hgd : o.guard = none) (s x : Operand)
    (ho : o.op = .call { callee := .builtin .append, args := #[s, x], argTypes := #[25, 25] })
    (base : Nat) (v : Value) (l : List Bytes) (y : Bytes) (g : Nat) (hs : a.eval s = v) (hx : a.eval x = .slice (some ⟨g, 0, none⟩) 1 1)
    (hnew : w.heap[g]? = some (.cells #[.string (bs y)] 9 (0, 0))) (hown : OwnS w base v l) (hbase : base ≤ w.heap.size) (hlen : l.length ≤ 1000000000000)
    (h : ∀ v' w', OwnS w' base v' (l ++ [y]) → Below base w w' → Far w w' v → K (a.put o.dst v') w') :
    if Region.wanted o (yielded ops a.tmps) = true then Oper.wp Try.prog o a w K Q else E := by
  obtain ⟨i0, hi, hz0, hz1, hz2⟩ := info_parts infoStr
  refine step_append_lies w hgd s x 25 ho base 9 i0 (.string .empty) 1 16 Try.underlying25 hi hz0 hz1 hz2 rfl (by decide) v l.length (l.map fun s => .string (bs s)) hs hown
    ⟨g, 0, none⟩ 1 1 [.string (bs y)] hx rfl (World.news_of_block hnew) ?_ (by omega) (by simp only [maxLen]; omega) (by omega) hbase _ rfl ?_
  · intro u hu
    simp at hu; subst hu; rfl
  · intro g' cap w' h1 h2 _ _
    refine h _ w' ?_ ((Below.refl _ _).grown h2 hbase (fun k hk => (hown.lt k hk).1)) (fun q h3 h4 => h2.cell_far q h3 h4)
    unfold OwnS
    simpa using h1

set_option maxRecDepth 100000 in
set_option maxHeartbeats 4000000 in
attribute [local go_sem ↓] Go.wp_at_zero Go.wp_at_succ in
theorem print_with (v : Value) (ls : List Lab) (J : Bytes) (w : World) (hv : Labels w v ls) (hw : ls.length + wt ls ≤ 1000000)
    (HJ : Hid (∀ v w, Strs w v (ls.map partOf) → Calls Try.prog 56 #[v, .string (bs [44])] w fun e w' => e = .returned (.string (bs J)) ∧ Below w.heap.size w w')) (hJ : J.length ≤ 1000000000) :
    Calls Try.prog 32 #[v] w fun e w' => e = .returned (.tuple #[.string (bs (printL J (chkL ls))), .int .i64 (errL (chkL ls))]) ∧ Below w.heap.size w w' := by
  have HL0 := Lib.hid hv
  have HLW := Lib.hid hw
  have HV := Lib.hid ((St.start w).add (fun w' => Labels w' v ls) (fun w' hb => hv.below hb))
  obtain ⟨a, cap, rfl, h1, h2, -⟩ := hv
  cases hb : chkL ls with
  | false =>
    have HB := Lib.hid hb
    go_enter Try.func32, Try.ntmps32
    go_wp2_with fail
    refine (check_any _ ls _ (HV.out.get 0 rfl)).mono ?_
    rintro e w1 ⟨rfl, hd⟩
    have HV1 := Lib.hid (HV.out.step hd)
    clear hd
    rw [HB.out]
    go_wp2_with fail
    go_ret2
    exact ⟨rfl, HV1.out.bel⟩
  | true =>
    have HB := Lib.hid hb
    have HWT := Lib.hid hw
    go_enter Try.func32, Try.ntmps32
    go_wp2_with fail
    refine (check_any _ ls _ (HV.out.get 0 rfl)).mono ?_
    rintro e w1 ⟨rfl, hd⟩
    have HV1 := Lib.hid (HV.out.step hd)
    clear hd
    rw [HB.out]
    go_wp2_with fail
    go_loopw [5, 15, 7] (fun p i q wr => ∃ k : Nat, k ≤ ls.length ∧ i = .int .i64 k ∧ OwnS wr w.heap.size p ((ls.take k).map partOf) ∧ Below w.heap.size w wr)
      (fun p i q wr => ls.length - (intOf i).toNat)
    case atStart => exact ⟨0, Nat.zero_le _, rfl, OwnS.nil _ _, HV1.out.bel⟩
    case round =>
      obtain ⟨k, hk, rfl, hown, hst⟩ := hrel
      have HO := Lib.hid hown
      have HS := Lib.hid hst
      clear hown hst
      by_cases hlt : k < ls.length
      · obtain ⟨b, off, rfl, hb, hc1, hc2⟩ := (HL0.out.below HS.out).at_ hlt
        have HP := Lib.hid (part_take hlt)
        have hll := lab_le hlt
        have HPO := Lib.hid (show ∀ y : Lab, partOf y = y.1 ++ 61 :: quoteL y.2 from fun _ => rfl)
        rw [HPO.out (ls.getD k ([], []))] at HP
        generalize (ls.getD k ([], [])).1 = n at *
        generalize (ls.getD k ([], [])).2 = x at *
        have hql := (quoteL_len0 x)
        have hg1 : ¬ (n.length + [(61 : UInt8)].length > 9223372036854775807) := by simp; omega
        have hg2 : ¬ (9223372036854775807 < n.length + 1) := by omega
        have hg3 : ¬ ((n ++ [(61 : UInt8)]).length + (quoteL x).length > 9223372036854775807) := by simp; omega
        have hg4 : ¬ (9223372036854775807 < n.length + 1 + (quoteL x).length) := by omega
        have HSZ := Lib.hid HS.out.size
        have HNE := Lib.hid (own_ne HO.out)
        go_wp2_with fail
        go_region_held3 (fun w' => w'.cell? ⟨wr.heap.size, 0, none⟩ = some (.string (bs n)) ∧ w'.cell? ⟨wr.heap.size, 1, none⟩ = some (.string (bs x)))
          (first | exact keep_far hfar HNE.out (by assumption) | exact keep2 (by assumption) hb1 | go_keep)
          (first
            | (go_at_call 20; refine (quote_any x _ (by omega)).mono ?_; rintro e w2 ⟨rfl, hb1⟩)
            | (refine step_str2 _ rfl (.tmp 19) (.tmp 27) rfl w.heap.size _ _ (n ++ 61 :: quoteL x) _ (by rfl) (by rfl) (heap_alloc_new ..) ((HO.out.below (below_box hb1)).below ((Below.refl _ _).alloc (Nat.le_refl _) _)) (app_base HSZ.out (below_box hb1)) (app_len HLW.out hlt) ?_; intro v' w4 hown4 hb4 hfar))
        all_goals
          (have hB4 := below_app HS.out (below_box hb1) hb4
           clear hb4
           go_wp2_with fail
           go_roundw
           case rel => exact ⟨_, _, _, _, _, _, _, _, _, _, _, _, _, _, _, _, _, ⟨k + 1, by omega, by go_num, by rw [HP.out]; exact hown4, hB4⟩, rfl⟩
           case measure => simp [intOf]; omega)
      · have hke : k = ls.length := by omega
        have HO' := Lib.hid (show Strs wr u5 (ls.map partOf) by have := HO.out.strs; rw [hke, List.take_of_length_le (Nat.le_refl _)] at this; exact this)
        go_wp2_with fail
        refine (HJ.out _ _ HO'.out).mono ?_
        rintro e w3 ⟨rfl, hd⟩
        have HS3 := Lib.hid (HS.out.trans (hd.mono HS.out.size))
        clear hd
        go_wp2_with fail
        go_ret2
        exact ⟨rfl, HS3.out⟩

end Go.Proofs.Ytamdkmcdleilpaa
