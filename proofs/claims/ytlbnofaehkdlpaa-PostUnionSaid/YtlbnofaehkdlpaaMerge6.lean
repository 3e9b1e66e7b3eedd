/-
  The walk of post.merge.
-/
import Derived.Test.YtlbnofaehkdlpaaInts6
import Derived.Test.YtlbnofaehkdlpaaAdj6
namespace Go.Proofs.Ytlbnofaehkdlpaa
open Go.RowKit


def lenOf : Value → Nat | .slice _ n _ => n | _ => 0

/-- What the closure answers: it neither draws nor writes. -/
structure Wishes (f : Nat) (wish : Bool → Bool → Bool) : Prop where
  run : ∀ (args : Array Value) (w : World), (callFunc f args).run Try.prog w = .ok (.enter f args) w
  call : ∀ (a b : Bool) (w : World), Calls Try.prog f #[.bool a, .bool b] w fun e w' => e = .returned (.bool (wish a b)) ∧ w = w'

/-- 's[1:]' of a slice that is not empty, under one name. -/
theorem tail_run {w : World} {x : Int} {l : List Int} {b off cap : Nat} (h : Ints w (.slice (some ⟨b, off, none⟩) (l.length + 1) cap) (x :: l)) :
    ∃ a cap', (∀ w', (Instr.sliceAt 22 (.slice (some ⟨b, off, none⟩) (l.length + 1) cap) (some (.int .i64 1)) none none).run Try.prog w' = .ok (.slice a l.length cap') w') ∧ Ints w (.slice a l.length cap') l := by
  obtain ⟨a, c, hv, h1, h2, h3⟩ := h
  obtain ⟨b', off', ha, hb, hc⟩ := h3 (by simp)
  simp only [Value.slice.injEq, List.length_cons] at hv
  obtain ⟨rfl, _, rfl⟩ := hv
  obtain ⟨rfl, rfl⟩ : b = b' ∧ off = off' := by simpa using ha
  simp only [List.length_cons] at h1
  refine ⟨if cap = 1 then some ⟨b, off, none⟩ else some ⟨b, off + 1, none⟩, cap - 1, fun w' => ?_, ?_⟩
  · rw [run_sliceAt_slice _ _ _ _ _ _ rfl, run_slice_l _ _ _ _ _ rfl _ _ (by omega) (by omega)]
    show Result.ok (sliced (some ⟨b, off, none⟩) 1 (l.length + 1) cap 1) w' = _
    unfold sliced
    by_cases e : cap = 1
    · simp [e]
    · simp [e, Addr.add_lit]
  · refine ⟨_, cap - 1, rfl, by omega, by omega, fun hl => ?_⟩
    have : 0 < l.length := List.length_pos_iff.2 hl
    refine ⟨b, off + 1, by rw [if_neg (by omega)], hb, fun i hi => ?_⟩
    have := hc (i + 1) (by simp; omega)
    rw [show off + 1 + i = off + (i + 1) by omega, this]
    simp [List.getD]

theorem Ints.head {w : World} {x : Int} {l : List Int} {v : Value} (h : Ints w v (x :: l)) :
    ∃ b off cap, v = .slice (some ⟨b, off, none⟩) (l.length + 1) cap ∧ l.length + 1 ≤ cap ∧ cap ≤ 9223372036854775807 ∧ w.cell? ⟨b, off, none⟩ = some (.int .i64 x) := by
  obtain ⟨a, cap, hv, h1, h2, h3⟩ := h
  obtain ⟨b, off, ha, hb, hc⟩ := h3 (by simp)
  subst ha
  refine ⟨b, off, cap, by simpa using hv, by simpa using h1, h2, ?_⟩
  have := hc 0 (by simp)
  simpa using this

theorem Ints.empty {w : World} {v : Value} (h : Ints w v []) : ∃ a cap, v = .slice a 0 cap := by
  obtain ⟨a, cap, hv, _⟩ := h
  exact ⟨a, cap, hv⟩

set_option maxRecDepth 100000 in
set_option maxHeartbeats 4000000 in
theorem merge_any (f : Nat) (wish : Bool → Bool → Bool) (HF : Wishes f wish) (v u : Value) (xs ys : List Int) (w : World) (hv : Ints w v xs) (hu : Ints w u ys) (hlen : xs.length + ys.length ≤ 1000000000000) :
    Calls Try.prog 22 #[v, u, .func (.func f) #[] #[]] w fun e w' => ∃ v', e = .returned v' ∧ Own w' w.heap.size v' (mg wish (xs.length + ys.length) xs ys) ∧ Below w.heap.size w w' := by
  obtain ⟨N, hN⟩ : ∃ N, N = xs.length + ys.length := ⟨_, rfl⟩
  obtain ⟨goal, hgoal⟩ : ∃ g, g = mg wish (xs.length + ys.length) xs ys := ⟨_, rfl⟩
  rw [← hgoal]
  have HN := Lib.hid hN
  have HG := Lib.hid hgoal
  have hNle : N ≤ 1000000000000 := by omega
  clear hN hgoal hlen
  have hrun := HF.run
  have HC := Lib.hid HF.call
  clear HF
  go_enter Try.func22, Try.ntmps22
  go_wp2
  go_loopw [0, 1, 7] (fun p q o wr => ∃ ps qs out : List Int, Ints w p ps ∧ Ints w q qs ∧ Own wr w.heap.size o out ∧ Below w.heap.size w wr ∧ out.length + ps.length + qs.length ≤ N ∧ out ++ mg wish (ps.length + qs.length) ps qs = goal)
    (fun p q _ _ => lenOf p + lenOf q)
  case atStart => exact ⟨xs, ys, [], hv, hu, Own.nil _ _, Below.refl _ _, by have := HN.out; simp; omega, by rw [HG.out]; rfl⟩
  case round =>
    obtain ⟨ps, qs, out, hp, hq, hown, hbel, hle, hg⟩ := hrel
    rcases ps with _ | ⟨x, p'⟩ <;> rcases qs with _ | ⟨y, q'⟩
    · obtain ⟨a, cap, rfl⟩ := hp.empty
      obtain ⟨a', cap', rfl⟩ := hq.empty
      have HO := Lib.hid (show out = goal by simpa [mg] using hg)
      clear hg
      go_wp2_with fail
      go_ret
      exact ⟨_, rfl, by rw [← HO.out]; exact hown, hbel⟩
    · obtain ⟨a, cap, rfl⟩ := hp.empty
      obtain ⟨b, off, cap', rfl, h1', h2', hc⟩ := (hq.below hbel).head
      obtain ⟨pa, pc, htail, hpt⟩ := tail_run hq
      have HP := Lib.hid hp
      have HT := Lib.hid hpt
      have HG2 := Lib.hid hg
      have hsz := hbel.size
      clear hp hg hq hv hu hpt
      have hle' : out.length + q'.length + 1 ≤ N := by simp at hle; omega
      clear hle
      have hd1 : ((q'.length : Int) + 1 == 0) = false := by rw [beq_eq_false_iff_ne]; omega
      by_cases hw : wish false true = true
      · have HC1 := Lib.hid (fun w => hw ▸ HC.out false true w)
        have HG3 := Lib.hid (show (out ++ [y]) ++ mg wish (([] : List Int).length + q'.length) [] q' = goal by rw [← HG2.out]; simp [mg, hw])
        clear hw
        go_wp2_with fail
        go_quiet (fail)
        go_wp2_with fail
        go_quiet (fail)
        go_wp2_with fail
        go_quiet (fail)
        go_wp2_with fail
        refine (HC1.out _).mono ?_
        rintro e w' ⟨rfl, rfl⟩
        go_wp2_with (at_builtin; refine wpList_app1 _ rfl (.tmp 69) (.tmp 71) rfl w.heap.size _ out y rfl rfl hown hsz (by omega) ?_; intro v' w1 hown1 hbel1 _)
        go_roundw
        case rel => exact ⟨_, _, _, HP.out, HT.out, hown1, (below_drewN hbel _).trans hbel1, by (try simp); omega, HG3.out⟩
        case measure => simp [lenOf] <;> omega
      · have hw' : wish false true = false := by simpa using hw
        have HC1 := Lib.hid (fun w => hw' ▸ HC.out false true w)
        have HG3 := Lib.hid (show out ++ mg wish (([] : List Int).length + q'.length) [] q' = goal by rw [← HG2.out]; simp [mg, hw'])
        clear hw hw'
        go_wp2_with fail
        go_quiet (fail)
        go_wp2_with fail
        go_quiet (fail)
        go_wp2_with fail
        go_quiet (fail)
        go_wp2_with fail
        refine (HC1.out _).mono ?_
        rintro e w' ⟨rfl, rfl⟩
        go_wp2_with fail
        go_roundw
        case rel => exact ⟨_, _, _, HP.out, HT.out, hown, below_drewN hbel _, by (try simp); omega, HG3.out⟩
        case measure => simp [lenOf] <;> omega
    · obtain ⟨a, cap, rfl⟩ := hq.empty
      obtain ⟨b, off, cap', rfl, h1', h2', hc⟩ := (hp.below hbel).head
      obtain ⟨pa, pc, htail, hpt⟩ := tail_run hp
      have HP := Lib.hid hq
      have HT := Lib.hid hpt
      have HG2 := Lib.hid hg
      have hsz := hbel.size
      clear hp hg hq hv hu hpt
      have hle' : out.length + p'.length + 1 ≤ N := by simp at hle; omega
      clear hle
      have hd1 : ((p'.length : Int) + 1 == 0) = false := by rw [beq_eq_false_iff_ne]; omega
      by_cases hw : wish true false = true
      · have HC1 := Lib.hid (fun w => hw ▸ HC.out true false w)
        have HG3 := Lib.hid (show (out ++ [x]) ++ mg wish (p'.length + ([] : List Int).length) p' [] = goal by rw [← HG2.out]; simp [mg, hw])
        clear hw
        go_wp2_with fail
        go_quiet (fail)
        go_wp2_with fail
        go_quiet (fail)
        go_wp2_with fail
        go_quiet (fail)
        go_wp2_with fail
        refine (HC1.out _).mono ?_
        rintro e w' ⟨rfl, rfl⟩
        go_wp2_with (at_builtin; refine wpList_app1 _ rfl (.tmp 69) (.tmp 71) rfl w.heap.size _ out x rfl rfl hown hsz (by omega) ?_; intro v' w1 hown1 hbel1 _)
        go_roundw
        case rel => exact ⟨_, _, _, HT.out, HP.out, hown1, (below_drewN hbel _).trans hbel1, by (try simp); omega, HG3.out⟩
        case measure => simp [lenOf] <;> omega
      · have hw' : wish true false = false := by simpa using hw
        have HC1 := Lib.hid (fun w => hw' ▸ HC.out true false w)
        have HG3 := Lib.hid (show out ++ mg wish (p'.length + ([] : List Int).length) p' [] = goal by rw [← HG2.out]; simp [mg, hw'])
        clear hw hw'
        go_wp2_with fail
        go_quiet (fail)
        go_wp2_with fail
        go_quiet (fail)
        go_wp2_with fail
        go_quiet (fail)
        go_wp2_with fail
        refine (HC1.out _).mono ?_
        rintro e w' ⟨rfl, rfl⟩
        go_wp2_with fail
        go_roundw
        case rel => exact ⟨_, _, _, HT.out, HP.out, hown, below_drewN hbel _, by (try simp); omega, HG3.out⟩
        case measure => simp [lenOf] <;> omega
    · obtain ⟨b, off, cap, rfl, h1, h2, hc⟩ := (hp.below hbel).head
      obtain ⟨b', off', cap', rfl, h1', h2', hc'⟩ := (hq.below hbel).head
      obtain ⟨pa, pc, htail, hpt⟩ := tail_run hp
      obtain ⟨qa, qc, htail', hqt⟩ := tail_run hq
      have HP := Lib.hid hp
      have HQ := Lib.hid hq
      have HTP := Lib.hid hpt
      have HTQ := Lib.hid hqt
      have HG2 := Lib.hid hg
      have hsz := hbel.size
      clear hp hg hq hv hu hpt hqt
      have hle' : out.length + p'.length + q'.length + 2 ≤ N := by simp at hle; omega
      clear hle
      have hd1 : ((p'.length : Int) + 1 == 0) = false := by rw [beq_eq_false_iff_ne]; omega
      have hd2 : ((q'.length : Int) + 1 == 0) = false := by rw [beq_eq_false_iff_ne]; omega
      by_cases hxy : x < y
      · have hb1 : decide (x ≤ y) = true := decide_eq_true (by omega)
        have hb2 : decide (y ≤ x) = false := decide_eq_false (by omega)
        have e1 : p'.length + 1 + (q'.length + 1) = (p'.length + (q'.length + 1)) + 1 := by omega
        have HS : Hid (mg wish ((x :: p').length + (y :: q').length) (x :: p') (y :: q') = (if wish true false then [x] else []) ++ mg wish (p'.length + (y :: q').length) p' (y :: q')) := by
          show mg wish (p'.length + 1 + (q'.length + 1)) _ _ = _
          rw [e1]; simp only [mg]; rw [if_pos hxy]; rfl
        clear e1
        by_cases hw : wish true false = true
        · have HC1 := Lib.hid (fun w => hw ▸ HC.out true false w)
          have HG3 := Lib.hid (show (out ++ [x]) ++ mg wish (p'.length + (y :: q').length) p' (y :: q') = goal by rw [← HG2.out, HS.out]; simp [hw])
          clear hw
          go_wp2_with fail
          go_quiet (fail)
          go_wp2_with fail
          go_quiet (fail)
          go_wp2_with fail
          go_quiet (fail)
          go_wp2_with fail
          refine (HC1.out _).mono ?_
          rintro e w' ⟨rfl, rfl⟩
          go_wp2_with (at_builtin; refine wpList_app1 _ rfl (.tmp 69) (.tmp 71) rfl w.heap.size _ out x rfl rfl hown hsz (by omega) ?_; intro v' w1 hown1 hbel1 _)
          go_roundw
          case rel => exact ⟨_, _, _, HTP.out, HQ.out, hown1, (below_drewN hbel _).trans hbel1, by (try simp); omega, HG3.out⟩
          case measure => simp [lenOf] <;> omega
        · have hw' : wish true false = false := by simpa using hw
          have HC1 := Lib.hid (fun w => hw' ▸ HC.out true false w)
          have HG3 := Lib.hid (show out ++ mg wish (p'.length + (y :: q').length) p' (y :: q') = goal by rw [← HG2.out, HS.out]; simp [hw'])
          clear hw hw'
          go_wp2_with fail
          go_quiet (fail)
          go_wp2_with fail
          go_quiet (fail)
          go_wp2_with fail
          go_quiet (fail)
          go_wp2_with fail
          refine (HC1.out _).mono ?_
          rintro e w' ⟨rfl, rfl⟩
          go_wp2_with fail
          go_roundw
          case rel => exact ⟨_, _, _, HTP.out, HQ.out, hown, below_drewN hbel _, by (try simp); omega, HG3.out⟩
          case measure => simp [lenOf] <;> omega
      · by_cases hyx : y < x
        · have hb1 : decide (x ≤ y) = false := decide_eq_false (by omega)
          have hb2 : decide (y ≤ x) = true := decide_eq_true (by omega)
          have e1 : p'.length + 1 + (q'.length + 1) = (p'.length + 1 + q'.length) + 1 := by omega
          have HS : Hid (mg wish ((x :: p').length + (y :: q').length) (x :: p') (y :: q') = (if wish false true then [y] else []) ++ mg wish ((x :: p').length + q'.length) (x :: p') q') := by
            show mg wish (p'.length + 1 + (q'.length + 1)) _ _ = _
            rw [e1]; simp only [mg]; rw [if_neg hxy, if_pos hyx]; rfl
          clear e1
          by_cases hw : wish false true = true
          · have HC1 := Lib.hid (fun w => hw ▸ HC.out false true w)
            have HG3 := Lib.hid (show (out ++ [y]) ++ mg wish ((x :: p').length + q'.length) (x :: p') q' = goal by rw [← HG2.out, HS.out]; simp [hw])
            clear hw
            go_wp2_with fail
            go_quiet (fail)
            go_wp2_with fail
            go_quiet (fail)
            go_wp2_with fail
            go_quiet (fail)
            go_wp2_with fail
            refine (HC1.out _).mono ?_
            rintro e w' ⟨rfl, rfl⟩
            go_wp2_with (at_builtin; refine wpList_app1 _ rfl (.tmp 69) (.tmp 71) rfl w.heap.size _ out y rfl rfl hown hsz (by omega) ?_; intro v' w1 hown1 hbel1 _)
            go_roundw
            case rel => exact ⟨_, _, _, HP.out, HTQ.out, hown1, (below_drewN hbel _).trans hbel1, by (try simp); omega, HG3.out⟩
            case measure => simp [lenOf] <;> omega
          · have hw' : wish false true = false := by simpa using hw
            have HC1 := Lib.hid (fun w => hw' ▸ HC.out false true w)
            have HG3 := Lib.hid (show out ++ mg wish ((x :: p').length + q'.length) (x :: p') q' = goal by rw [← HG2.out, HS.out]; simp [hw'])
            clear hw hw'
            go_wp2_with fail
            go_quiet (fail)
            go_wp2_with fail
            go_quiet (fail)
            go_wp2_with fail
            go_quiet (fail)
            go_wp2_with fail
            refine (HC1.out _).mono ?_
            rintro e w' ⟨rfl, rfl⟩
            go_wp2_with fail
            go_roundw
            case rel => exact ⟨_, _, _, HP.out, HTQ.out, hown, below_drewN hbel _, by (try simp); omega, HG3.out⟩
            case measure => simp [lenOf] <;> omega
        · have e1 : p'.length + 1 + (q'.length + 1) = (p'.length + q'.length + 1) + 1 := by omega
          have HS : Hid (mg wish ((x :: p').length + (y :: q').length) (x :: p') (y :: q') = (if wish true true then [x] else []) ++ mg wish (p'.length + q'.length) p' q') := by
            show mg wish (p'.length + 1 + (q'.length + 1)) _ _ = _
            rw [e1]; simp only [mg]; rw [if_neg hxy, if_neg hyx]
            rw [mg_more wish (p'.length + q'.length + 1) (p'.length + q'.length) p' q' (by omega) (by omega)]
          have hxe : x = y := by omega
          subst hxe
          have hb1 : decide (x ≤ x) = true := decide_eq_true (by omega)
          clear e1
          by_cases hw : wish true true = true
          · have HC1 := Lib.hid (fun w => hw ▸ HC.out true true w)
            have HG3 := Lib.hid (show (out ++ [x]) ++ mg wish (p'.length + q'.length) p' q' = goal by rw [← HG2.out, HS.out]; simp [hw])
            clear hw
            go_wp2_with fail
            go_quiet (fail)
            go_wp2_with fail
            go_quiet (fail)
            go_wp2_with fail
            go_quiet (fail)
            go_wp2_with fail
            go_quiet (fail)
            go_wp2_with fail
            refine (HC1.out _).mono ?_
            rintro e w' ⟨rfl, rfl⟩
            go_wp2_with (at_builtin; refine wpList_app1 _ rfl (.tmp 69) (.tmp 71) rfl w.heap.size _ out x rfl rfl hown hsz (by omega) ?_; intro v' w1 hown1 hbel1 _)
            go_roundw
            case rel => exact ⟨_, _, _, HTP.out, HTQ.out, hown1, (below_drewN hbel _).trans hbel1, by (try simp); omega, HG3.out⟩
            case measure => simp [lenOf] <;> omega
          · have hw' : wish true true = false := by simpa using hw
            have HC1 := Lib.hid (fun w => hw' ▸ HC.out true true w)
            have HG3 := Lib.hid (show out ++ mg wish (p'.length + q'.length) p' q' = goal by rw [← HG2.out, HS.out]; simp [hw'])
            clear hw hw'
            go_wp2_with fail
            go_quiet (fail)
            go_wp2_with fail
            go_quiet (fail)
            go_wp2_with fail
            go_quiet (fail)
            go_wp2_with fail
            go_quiet (fail)
            go_wp2_with fail
            refine (HC1.out _).mono ?_
            rintro e w' ⟨rfl, rfl⟩
            go_wp2_with fail
            go_roundw
            case rel => exact ⟨_, _, _, HTP.out, HTQ.out, hown, below_drewN hbel _, by (try simp); omega, HG3.out⟩
            case measure => simp [lenOf] <;> omega

end Go.Proofs.Ytlbnofaehkdlpaa
