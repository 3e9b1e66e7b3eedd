/-
  slices.SortStableFunc of at most twelve samples.
-/
import Derived.Test.YtheenlomlmbjaaaGreatDoorTIns
import Derived.Test.YtheenlomlmbjaaaGreatDoorFSer
import Derived.Test.YtheenlomlmbjaaaGreatDoorGBlock
import Derived.Test.YtheenlomlmbjaaaGreatDoorMatch
set_option linter.unusedSimpArgs false
set_option linter.unusedVariables false
namespace Go.Proofs.YtheenlomlmbjaaaGreatDoor
open Go.RowKit

set_option maxRecDepth 100000 in
set_option maxHeartbeats 1000000 in
theorem stable12_any {g cap : Nat} {l : List El} (n : Nat) (w : World) (h : RowE w g cap l) (hn : n = l.length) (hle : n ≤ 12) :
    Calls Tryz.prog 180 #[.slice (some ⟨g, 0, none⟩) n cap, .int .i64 n, cmpV] w
      fun e w' => e = .returned (.tuple #[]) ∧ RowE w' g cap (sortL ltE l) ∧ w.grownBy w' (some g) := by
  have hnc : n ≤ cap := by rw [hn]; exact h.1
  have HC := Lib.hid (insertion_any (g := g) (cap := cap) [] l [] (l := l) 0 n n w h (by simp) rfl (by simp [hn]) hn (by omega))
  simp only [List.nil_append, List.append_nil] at HC
  unfold cmpV at HC ⊢
  clear h hn
  go_enter Tryz.func180, Tryz.ntmps180
  go_wp2_with fail
  refine wp_loop_rounds 1 ?_
  rw [rounds_succ]
  go_wp2_with fail
  refine HC.out.mono ?_
  rintro e w3 ⟨rfl, h1, h2⟩
  have H1 := Lib.hid h1
  have H2 := Lib.hid h2
  clear h1 h2 HC
  go_wp2_with fail
  refine wp_loop_rounds 1 ?_
  rw [rounds_succ]
  go_wp2_with fail
  go_end0
  exact ⟨rfl, H1.out, H2.out⟩

set_option maxRecDepth 100000 in
theorem sortStable12_any (g cap n : Nat) (l : List Smp) (w : World) (hr : RowE w g cap l) (hn : l.length = n) (hl : n ≤ 12) :
    Calls Tryz.prog 106 #[.slice (some ⟨g, 0, none⟩) n cap, cmpV] w fun e w' => e = .returned (.tuple #[]) ∧ RowE w' g cap (sortL ltE l) ∧ w.grownBy w' (some g) := by
  have HC := Lib.hid (stable12_any n w hr hn.symm hl)
  have hnc : n ≤ cap := by rw [← hn]; exact hr.1
  clear hr hn
  unfold cmpV at HC ⊢
  go_enter Tryz.func106, Tryz.ntmps106
  go_wp2_with fail
  refine HC.out.mono ?_
  rintro e w3 ⟨rfl, h1, h2⟩
  have H1 := Lib.hid h1
  have H2 := Lib.hid h2
  clear h1 h2
  go_wp2_with fail
  go_end0
  exact ⟨rfl, H1.out, H2.out⟩

end Go.Proofs.YtheenlomlmbjaaaGreatDoor

namespace Go.Proofs.YtheenlomlmbjaaaGreatDoor
open Go.RowKit

def eqV : Value := .func (.func 109) #[] #[]
set_option maxRecDepth 100000 in
theorem eqT_any (a b c d : Int) (w : World) (h : a ≠ c) :
    Calls Tryz.prog 109 #[.agg #[.int .i64 a, .int .i64 b], .agg #[.int .i64 c, .int .i64 d]] w fun e w' => e = .returned (.bool false) ∧ Below w.heap.size w w' := by
  have hac : (a == c) = false := by simpa using h
  have HF := Lib.hid h
  clear h
  go_enter Tryz.func109, Tryz.ntmps109
  go_wp2_with fail
  go_ret
  exact ⟨rfl, ((Below.refl _ _).alloc (Nat.le_refl _) _).alloc (by simp) _⟩

def RiseT (l : List Smp) : Prop := ∀ i, 1 ≤ i → i < l.length → (l.getD (i - 1) (0, 0)).1 < (l.getD i (0, 0)).1

theorem keepC {w' w'' : World} {g : Nat} {a b c d : Nat} {x y z u : Value} (h : w'.cell? ⟨g, a, none⟩ = some x ∧ w'.cell? ⟨g, b, none⟩ = some y ∧ w'.cell? ⟨g, c, none⟩ = some z ∧ w'.cell? ⟨g, d, none⟩ = some u) (hb : Below w'.heap.size w' w'') :
    w''.cell? ⟨g, a, none⟩ = some x ∧ w''.cell? ⟨g, b, none⟩ = some y ∧ w''.cell? ⟨g, c, none⟩ = some z ∧ w''.cell? ⟨g, d, none⟩ = some u := by
  have hg : g < w'.heap.size := World.block_lt_of_cell? w' _ h.1
  exact ⟨(hb.cell (p := ⟨g, a, none⟩) hg).trans h.1, (hb.cell (p := ⟨g, b, none⟩) hg).trans h.2.1, (hb.cell (p := ⟨g, c, none⟩) hg).trans h.2.2.1, (hb.cell (p := ⟨g, d, none⟩) hg).trans h.2.2.2⟩

set_option maxRecDepth 100000 in
set_option maxHeartbeats 2000000 in
theorem compact_any (v : Value) (n : Nat) (l : List Smp) (w : World) (hv : Samples w v l) (hn : l.length = n) (hr : RiseT l) :
    Calls Tryz.prog 108 #[v, eqV] w fun e w' => e = .returned v ∧ Below w.heap.size w w' := by
  have HV := Lib.hid hv
  obtain ⟨a, cap, rfl, h1, h2, -⟩ := hv
  have HR := Lib.hid hr
  have HN := Lib.hid hn
  rw [hn] at HV h1
  rw [hn]
  clear hr hn
  unfold eqV
  by_cases hn2 : n < 2
  · go_enter Tryz.func108, Tryz.ntmps108
    go_wp2_with fail
    go_ret
    exact ⟨rfl, Below.refl _ _⟩
  · go_enter Tryz.func108, Tryz.ntmps108
    go_wp2_with fail
    go_loopw [5] (fun i wr => ∃ k : Nat, i = .int .i64 k ∧ 1 ≤ k ∧ k ≤ n ∧ Below w.heap.size w wr) (fun i _ => n - (intOf i).toNat)
    case atStart => exact ⟨1, rfl, Nat.le_refl _, by omega, Below.refl _ _⟩
    case round =>
      obtain ⟨k, rfl, hk1, hk, hb⟩ := hrel
      have HB := Lib.hid hb
      have HS := Lib.hid (HV.out.below hb)
      clear hb
      by_cases hlt : k < n
      · obtain ⟨g, off, ha, hgl, c0, c1⟩ := HS.out.at_ (i := k) (by rw [HN.out]; exact hlt)
        obtain ⟨g', off', ha', -, d0, d1⟩ := HS.out.at_ (i := k - 1) (by rw [HN.out]; omega)
        subst ha
        simp only [Option.some.injEq, Addr.mk.injEq, and_true] at ha'
        obtain ⟨rfl, rfl⟩ := ha'
        have hne := HR.out k hk1 (by rw [HN.out]; exact hlt)
        have HC := Lib.hid (fun w => eqT_any (l.getD k (0, 0)).1 (l.getD k (0, 0)).2 (l.getD (k - 1) (0, 0)).1 (l.getD (k - 1) (0, 0)).2 w (by omega))
        clear hne
        generalize (l.getD k (0, 0)).1 = x0 at *
        generalize (l.getD k (0, 0)).2 = x1 at *
        generalize (l.getD (k - 1) (0, 0)).1 = y0 at *
        generalize (l.getD (k - 1) (0, 0)).2 = y1 at *
        obtain ⟨q, hq⟩ : ∃ q, q = k - 1 := ⟨_, rfl⟩
        rw [← hq] at d0 d1
        have hkq : k = q + 1 := by omega
        subst hkq
        have hz0 : (0 : Int) ≤ ((q + 1 : Nat) : Int) := by omega
        have hz1 : ((q + 1 : Nat) : Int) < (n : Int) := by omega
        have hz2 : (0 : Int) ≤ ((q + 1 : Nat) : Int) - 1 := by omega
        have hz4 : (1 : Int) ≤ ((q + 1 : Nat) : Int) := by omega
        have hz3 : ((q + 1 : Nat) : Int) - 1 < (n : Int) := by omega
        have hww : IntKind.i64.wrap (((q + 1 : Nat) : Int) - 1) = ((q + 1 : Nat) : Int) - 1 := IntWalk.i64_in _ (by omega)
        have htn : (((q + 1 : Nat) : Int) - 1).toNat = q := by omega
        have htn2 : (((q + 1 : Nat) : Int)).toNat = q + 1 := by omega
        clear hq
        obtain ⟨j, hj⟩ : ∃ j, j = q + 1 := ⟨_, rfl⟩
        rw [← hj] at hz0 hz1 hz2 hz3 hz4 hww htn htn2 c0 c1 hk1 hk hlt ⊢
        have hjq := Lib.hid hj
        clear hj
        go_wp2_with fail
        go_region_held3 (fun w' => w'.cell? ⟨g, off + j * 2, none⟩ = some (.int .i64 x0) ∧ w'.cell? ⟨g, off + j * 2 + 1, none⟩ = some (.int .i64 x1) ∧ w'.cell? ⟨g, off + q * 2, none⟩ = some (.int .i64 y0) ∧ w'.cell? ⟨g, off + q * 2 + 1, none⟩ = some (.int .i64 y1))
          (first | exact keepC (by assumption) hb1 | exact keepC (by assumption) (drE hb1) | go_keep)
          (first | (go_at_call 109; refine (HC.out _).mono ?_; rintro e w2 ⟨rfl, hb1⟩))
        have HB2 := Lib.hid (HB.out.trans ((drE hb1).mono HB.out.size))
        clear hb1
        go_wp2_with fail
        go_roundw
        case rel => exact ⟨j + 1, by go_num, by omega, by omega, HB2.out⟩
        case measure => simp [intOf]; omega
      · have hke : k = n := by omega
        subst hke
        go_wp2_with fail
        go_ret
        exact ⟨rfl, HB.out⟩

end Go.Proofs.YtheenlomlmbjaaaGreatDoor

namespace Go.Proofs.YtheenlomlmbjaaaGreatDoor
open Go.RowKit Go.Maps

theorem sort_one (x : El) : sortL ltE [x] = [x] := by
  show mergeL ltE [] [x] = [x]
  rw [mergeL_nil_left]
theorem OwnR.rowE {w : World} {base : Nat} {v : Value} {l : List Smp} (h : OwnR 211 2 encS w base v l) (hne : l ≠ []) :
    ∃ g cap, v = .slice (some ⟨g, 0, none⟩) l.length cap ∧ base ≤ g ∧ RowE w g cap l := by
  rcases h.2 with ⟨rfl, h0⟩ | ⟨g, cap, cur, rfl, hg, hh, hn, hcap, hs, htake⟩
  · exact absurd (List.eq_nil_of_length_eq_zero h0) hne
  · exact ⟨g, cap, rfl, hg, hn, hcap, cur, hh, hs, htake⟩
theorem RowE.own {w : World} {g cap n : Nat} {l : List Smp} (h : RowE w g cap l) (hn : l.length = n) : OwnR 211 2 encS w g (.slice (some ⟨g, 0, none⟩) n cap) l := by
  obtain ⟨h1, h2, cur, h3, h4, h5⟩ := h
  subst hn
  exact ⟨flat_len (enc := encS) (k := 2) (fun _ => rfl) _, .inr ⟨g, cap, cur, rfl, Nat.le_refl _, h3, h1, h2, h4, h5⟩⟩
theorem RowE.samples {w : World} {g cap n : Nat} {l : List Smp} (h : RowE w g cap l) (hn : l.length = n) : Samples w (.slice (some ⟨g, 0, none⟩) n cap) l := (h.own hn).samples

theorem zeroSl (w : World) : (zeroValue 47).run Tryz.prog w = .ok (.slice none 0 0) w := by kernel_rfl

theorem next_end (w : World) {ops : Array Oper} {rest : List Oper} {o : Oper} {a : Act} {Q : Exit → Act → World → Prop} (hg : o.guard = none) (it : Operand) (hop : o.op = Op.next it false) (D : DataW Value) (b r n cnt : Nat) (left : Lit → Bool)
    (hit : a.eval it = .pointer (some ⟨r, 0, none⟩)) (h : w.ranges Tryz.prog 3 rawE b r n D left cnt) (hl : ∀ z, left z = false)
    (hK : wpList Tryz.prog ops Q rest (a.put o.dst (.tuple #[.bool false])) w) :
    wpList Tryz.prog ops Q (o :: rest) a w := by
  refine wpList_next_ranges w hg it hop 3 keyedInt rawE (Value.int .i64) id (fun key kl hkey => by obtain ⟨x, rfl, _⟩ := Maps.keyOf_int_inv Tryz.underlying3 hkey; exact ⟨x, rfl⟩) (fun v y _ => ⟨v, rfl⟩) b r n D _ cnt hit h ?_ ?_
  · intro _ _; exact hK
  · intro x c kl y w' cnt' _ hlk
    rw [hl kl] at hlk; cases hlk

end Go.Proofs.YtheenlomlmbjaaaGreatDoor

namespace Go.Proofs.YtheenlomlmbjaaaGreatDoor
open Go.RowKit Go.Maps

theorem smpOf_snoc (R : List Rw) (r : Rw) (id : Int) : smpOf (R ++ [r]) id = if id = r.2.1 then smpOf R id ++ [(r.1, r.2.2)] else smpOf R id := by
  unfold smpOf
  rw [List.filter_append, List.map_append]
  by_cases h : id = r.2.1
  · subst h; simp
  · have h' : ¬ r.2.1 = id := fun e => h e.symm
    simp [h, h']
abbrev GrpN (b : Nat) (R : List Rw) (w : World) (D : DataW Value) (V : Int → Value) : Prop := GrpG 211 2 encS b R.length (smpOf R) w D V
theorem GrpN.start (w : World) : GrpN w.heap.size [] (w.alloc (.map #[] 0)) (.map []) (fun _ => nilS) := GrpG.start w
theorem GrpN.step {b : Nat} {R : List Rw} {w w1 : World} {D : DataW Value} {V : Int → Value} {r : Rw} {g cap : Nat} (h : GrpN b R w D V) (h0 : 0 ≤ r.2.1) (h1 : r.2.1 < 200) (hl : R.length < 1000000)
    (hgr : w.grownBy w1 (V r.2.1).ownBlock) (hnew : (V r.2.1).ownBlock = some g ∨ w.heap.size ≤ g)
    (ho : OwnR 211 2 encS w1 (b + 1) (.slice (some ⟨g, 0, none⟩) ((smpOf R r.2.1).length + 1) cap) (smpOf R r.2.1 ++ [(r.1, r.2.2)])) :
    GrpN b (R ++ [r]) (mapPut Tryz.prog 218 b (.int .i64 r.2.1) (.slice (some ⟨g, 0, none⟩) ((smpOf R r.2.1).length + 1) cap) w1)
      (D.put (kI r.2.1) (.held (.slice (some ⟨g, 0, none⟩) ((smpOf R r.2.1).length + 1) cap))) (fun id => if id = r.2.1 then .slice (some ⟨g, 0, none⟩) ((smpOf R r.2.1).length + 1) cap else V id) ∧
    w1.grownBy (mapPut Tryz.prog 218 b (.int .i64 r.2.1) (.slice (some ⟨g, 0, none⟩) ((smpOf R r.2.1).length + 1) cap) w1) (some b) := by
  have h2 := GrpG.step (y := (r.1, r.2.2)) Tryz.underlying218 h h0 (by omega) hl hgr hnew ho
  have e : (fun id => if id = r.2.1 then smpOf R id ++ [(r.1, r.2.2)] else smpOf R id) = smpOf (R ++ [r]) := by funext id; rw [smpOf_snoc]
  rw [e] at h2
  unfold GrpN
  rw [List.length_append]
  exact h2

end Go.Proofs.YtheenlomlmbjaaaGreatDoor

namespace Go.Proofs.YtheenlomlmbjaaaGreatDoor
open Go.RowKit

def timeF : Value := .func (.func 107) #[] #[]
theorem hd_S {w : World} {b off : Nat} {x : Smp} (h : ∀ j u, (encS x)[j]? = some u → w.cell? ⟨b, off + j, none⟩ = some u) :
    w.cell? ⟨b, off, none⟩ = some (.int .i64 x.1) ∧ w.cell? ⟨b, off + 1, none⟩ = some (.int .i64 x.2) := ⟨h 0 _ rfl, h 1 _ rfl⟩
set_option maxRecDepth 100000 in
theorem tl_S (b off n cap : Nat) (h1 : n + 1 ≤ cap) (h2 : cap ≤ 9223372036854775807) (w : World) :
    (Instr.sliceAt 47 (.slice (some ⟨b, off, none⟩) (n + 1) cap) (some (.int .i64 1)) none none).run Tryz.prog w = .ok (.slice (if cap = 1 then some ⟨b, off, none⟩ else some ⟨b, off + 2, none⟩) n (cap - 1)) w := by
  rw [run_sliceAt_slice _ _ _ _ _ _ rfl, run_slice_l _ _ _ _ _ rfl _ _ (by omega) (by omega)]
  rfl
theorem keepMS {w' w'' : World} {b c o p : Nat} {x0 x1 y0 y1 : Value} (h : w'.cell? ⟨b, o, none⟩ = some x0 ∧ w'.cell? ⟨b, o + 1, none⟩ = some x1 ∧ w'.cell? ⟨c, p, none⟩ = some y0 ∧ w'.cell? ⟨c, p + 1, none⟩ = some y1)
    (hb : Below w'.heap.size w' w'') : w''.cell? ⟨b, o, none⟩ = some x0 ∧ w''.cell? ⟨b, o + 1, none⟩ = some x1 ∧ w''.cell? ⟨c, p, none⟩ = some y0 ∧ w''.cell? ⟨c, p + 1, none⟩ = some y1 := by
  obtain ⟨h0, h1, h2, h3⟩ := h
  exact ⟨(hb.cell (World.block_lt_of_cell? w' _ h0)).trans h0, (hb.cell (World.block_lt_of_cell? w' _ h1)).trans h1, (hb.cell (World.block_lt_of_cell? w' _ h2)).trans h2, (hb.cell (World.block_lt_of_cell? w' _ h3)).trans h3⟩
theorem keepOS {w' w'' : World} {b o B : Nat} {x0 x1 : Value} (h : w'.cell? ⟨b, o, none⟩ = some x0 ∧ w'.cell? ⟨b, o + 1, none⟩ = some x1)
    (hb : Below B w' w'') (hlt : b < B) : w''.cell? ⟨b, o, none⟩ = some x0 ∧ w''.cell? ⟨b, o + 1, none⟩ = some x1 := by
  obtain ⟨h0, h1⟩ := h
  exact ⟨(hb.cell (p := ⟨b, o, none⟩) hlt).trans h0, (hb.cell (p := ⟨b, o + 1, none⟩) hlt).trans h1⟩

def MRelS (la lb : List Smp) (w : World) (a b o : Value) (wr : World) : Prop :=
  ∃ la' lb' acc : List Smp, RowG 2 encS w a la' ∧ RowG 2 encS w b lb' ∧ OwnR 211 2 encS wr w.heap.size o acc ∧ acc ++ mergeF cmpS la' lb' = mergeF cmpS la lb ∧ acc.length + la'.length + lb'.length ≤ la.length + lb.length ∧ Below w.heap.size w wr

set_option maxRecDepth 100000 in
set_option maxHeartbeats 8000000 in
attribute [local go_sem ↓] Go.wp_at_zero Go.wp_at_succ in
theorem mergeS_any (a b : Value) (la lb : List Smp) (w : World) (ha : RowG 2 encS w a la) (hb : RowG 2 encS w b lb) (hl : la.length ≤ 100000) (hl2 : lb.length ≤ 100000) :
    Calls Tryz.prog 184 #[a, b, timeF] w fun e w' => ∃ u, e = .returned u ∧ OwnR 211 2 encS w' w.heap.size u (mergeF cmpS la lb) ∧ Below w.heap.size w w' := by
  have HA := Lib.hid ha
  have HB := Lib.hid hb
  obtain ⟨aa, ca, rfl, a1, a2, -, -⟩ := ha.src (fun _ => rfl)
  obtain ⟨ab, cb, rfl, b1, b2, -, -⟩ := hb.src (fun _ => rfl)
  clear ha hb
  unfold timeF
  obtain ⟨z0, hz, hzk⟩ := tySmp.info
  obtain ⟨i0, hi, hz0, hz1, hz2⟩ := info_parts hz
  have hw : IntKind.i64.wrap ((la.length : Int) + lb.length) = ((la.length + lb.length : Nat) : Int) := by rw [IntWalk.i64_in _ (by omega)]; omega
  go_enter Tryz.func184, Tryz.ntmps184
  go_wp2_with (at_make; refine wpList_make_own _ rfl _ _ 47 rfl w.heap.size 211 i0 _ 2 Tryz.underlying47 hi hz0 hz1 _ _ _ (la.length + lb.length) rfl rfl (by first | rfl | simp) (by rw [hz2]; omega) (by simp only [maxLen]; omega) (Nat.le_refl _) ?_; intro w1 hown1 hgrow1)
  have HS0 := Lib.hid (show MRelS la lb w (.slice aa la.length ca) (.slice ab lb.length cb) (.slice (some ⟨w.heap.size, 0, none⟩) 0 (la.length + lb.length)) w1 from
    ⟨la, lb, [], HA.out, HB.out, hown1, rfl, by simp, (Below.refl w.heap.size w).grown hgrow1 (Nat.le_refl _) (fun k hk => by cases hk)⟩)
  clear hown1 hgrow1 HA HB a1 a2 b1 b2 hw hz hzk hi hz0 hz1 hz2
  go_loopw [0, 1, 7] (fun a b o wr => MRelS la lb w a b o wr) (fun a b _ _ => lenG a + lenG b)
  case atStart => exact HS0.out
  case round =>
    clear HS0
    obtain ⟨la', lb', acc, hra, hrb, hfit, hacc, hlen, hbl⟩ := hrel
    have HBL := Lib.hid hbl
    have HAC := Lib.hid hacc
    have HRA := Lib.hid hra
    have HRB := Lib.hid hrb
    have HO := Lib.hid hfit
    have hsz := hbl.size
    have hend : (la' = [] ∨ lb' = []) ∨ ∃ x ra y rb, la' = x :: ra ∧ lb' = y :: rb := by
      rcases la' with _ | ⟨x, ra⟩
      · exact .inl (.inl rfl)
      · rcases lb' with _ | ⟨y, rb⟩
        · exact .inl (.inr rfl)
        · exact .inr ⟨x, ra, y, rb, rfl, rfl⟩
    rcases hend with hend | ⟨x, ra, y, rb, rfl, rfl⟩
    · have HF := Lib.hid (show acc ++ la' ++ lb' = mergeF cmpS la lb by
        rw [← hacc]
        rcases hend with rfl | rfl
        · rw [mergeF_nil]; simp
        · rw [mergeF_nil']; simp)
      have HGA := Lib.hid (hra.below hbl)
      obtain ⟨aa, ca, rfl, a1, a2, -, -⟩ := hra.src (fun _ => rfl)
      obtain ⟨ab, cb, rfl, b1, b2, -, -⟩ := hrb.src (fun _ => rfl)
      have hla : la'.length ≤ 200000 := by omega
      have hlb : lb'.length ≤ 200000 := by omega
      have hlo : acc.length ≤ 200000 := by omega
      have hcase : (la'.length = 0) ∨ (0 < la'.length ∧ lb'.length = 0) := by
        rcases hend with rfl | rfl
        · exact .inl rfl
        · rcases Nat.eq_zero_or_pos la'.length with h | h
          · exact .inl h
          · exact .inr ⟨h, rfl⟩
      clear hacc hra hrb hfit hbl hlen hend
      have HT1 := Lib.hid (fun w3 (h : Below w.heap.size wr w3) => HRB.out.below (HBL.out.trans h))
      rcases hcase with h | ⟨h, h2⟩
      · have d1 : decide (0 < la'.length) = false := by rw [h]; rfl
        clear h
        go_wp2_with (first
          | (at_builtin; refine appG tySmp _ rfl (.tmp 53) (.tmp 54) rfl w.heap.size _ _ acc la' rfl rfl HO.out HGA.out (by omega) hsz ?_; intro v2 w2 hown2 hbel2; have HO2 := Lib.hid hown2; have HB2 := Lib.hid hbel2; have HS2 := Lib.hid (Nat.le_trans hsz hbel2.size); clear hown2 hbel2)
          | (at_builtin; refine appG tySmp _ rfl (.tmp 55) (.tmp 56) rfl w.heap.size _ _ (acc ++ la') lb' rfl rfl HO2.out (HT1.out _ HB2.out) (by simp; omega) HS2.out ?_; intro v3 w3 hown3 hbel3))
        go_ret
        exact ⟨_, rfl, by rw [← HF.out]; exact hown3, (HBL.out.trans HB2.out).trans hbel3⟩
      · have d1 : decide (0 < la'.length) = true := by simp; omega
        have d2 : decide (0 < lb'.length) = false := by rw [h2]; rfl
        clear h h2
        go_wp2_with (first
          | (at_builtin; refine appG tySmp _ rfl (.tmp 53) (.tmp 54) rfl w.heap.size _ _ acc la' rfl rfl HO.out HGA.out (by omega) hsz ?_; intro v2 w2 hown2 hbel2; have HO2 := Lib.hid hown2; have HB2 := Lib.hid hbel2; have HS2 := Lib.hid (Nat.le_trans hsz hbel2.size); clear hown2 hbel2)
          | (at_builtin; refine appG tySmp _ rfl (.tmp 55) (.tmp 56) rfl w.heap.size _ _ (acc ++ la') lb' rfl rfl HO2.out (HT1.out _ HB2.out) (by simp; omega) HS2.out ?_; intro v3 w3 hown3 hbel3))
        go_ret
        exact ⟨_, rfl, by rw [← HF.out]; exact hown3, (HBL.out.trans HB2.out).trans hbel3⟩
    · obtain ⟨b, off, ca, rfl, a1, a2, hbs, hcx, htx⟩ := hra.cons
      obtain ⟨c, off2, cb, rfl, b1, b2, hcs, hcy, hty⟩ := hrb.cons
      have HTA := Lib.hid (htx rfl)
      have HTB := Lib.hid (hty rfl)
      have hta := tl_S b off ra.length ca a1 a2
      have htb := tl_S c off2 rb.length cb b1 b2
      have HX := Lib.hid (hd_S (fun j u hj => (hbl.cell (p := ⟨b, off + j, none⟩) hbs).trans (hcx j u hj)))
      have HY := Lib.hid (hd_S (fun j u hj => (hbl.cell (p := ⟨c, off2 + j, none⟩) hcs).trans (hcy j u hj)))
      obtain ⟨ta, hta1⟩ : ∃ t, t = (if ca = 1 then some (⟨b, off, none⟩ : Addr) else some ⟨b, off + 2, none⟩) := ⟨_, rfl⟩
      obtain ⟨tb, htb1⟩ : ∃ t, t = (if cb = 1 then some (⟨c, off2, none⟩ : Addr) else some ⟨c, off2 + 2, none⟩) := ⟨_, rfl⟩
      rw [← hta1] at hta HTA
      rw [← htb1] at htb HTB
      clear hta1 htb1 hcx hcy htx hty hra hrb
      have HC := Lib.hid (fun w => byTime_any x.1 x.2 y.1 y.2 w)
      have hlen' : acc.length + ra.length + rb.length + 2 ≤ la.length + lb.length := by simp at hlen; omega
      have HLt := Lib.hid (fun h : cmpS x y < 0 => show acc ++ [x] ++ mergeF cmpS ra (y :: rb) = mergeF cmpS la lb by rw [← hacc, mergeF_lt h]; simp)
      have HEq := Lib.hid (fun h : cmpS x y = 0 => show acc ++ [y] ++ mergeF cmpS ra rb = mergeF cmpS la lb by rw [← hacc, mergeF_eq h]; simp)
      have HGt := Lib.hid (fun h : 0 < cmpS x y => show acc ++ [y] ++ mergeF cmpS (x :: ra) rb = mergeF cmpS la lb by rw [← hacc, mergeF_gt h]; simp)
      clear hlen hacc HAC
      have hbw := Nat.lt_of_lt_of_le hbs hsz
      have hcw := Nat.lt_of_lt_of_le hcs hsz
      have HBS := Lib.hid hbs
      have HCS := Lib.hid hcs
      clear hbs hcs
      have HBx := Lib.hid (fun W (h : Below wr.heap.size wr W) => HBL.out.trans (h.mono hsz))
      have HOx := Lib.hid (fun W (h : Below wr.heap.size wr W) => HO.out.below h)
      obtain ⟨x0, x1⟩ := x
      obtain ⟨y0, y1⟩ := y
      obtain ⟨cx0, cx1⟩ := HX.out
      obtain ⟨cy0, cy1⟩ := HY.out
      clear HX HY
      simp only at cx0 cx1 cy0 cy1 HC
      try (simp only [show ∀ a b : Smp, cmpS a b = cmpS a b from fun _ _ => rfl] at HC)
      have HCC := Lib.hid (show ∀ z, cmpS (x0, x1) (y0, y1) = z → cmpS (x0, x1) (y0, y1) = z from fun _ h => h)
      change Hid (∀ w, Calls Tryz.prog 107 #[.agg #[.int .i64 x0, .int .i64 x1], .agg #[.int .i64 y0, .int .i64 y1]] w fun e w' => e = .returned (.int .i64 (cmpS (x0, x1) (y0, y1))) ∧ Below w.heap.size w w') at HC
      generalize cmpS (x0, x1) (y0, y1) = cc at *
      have hsgn : cc < 0 ∨ cc = 0 ∨ 0 < cc := by omega
      clear hbl hfit HCC
      go_wp2_with fail
      go_region_held3 (fun w' => w'.cell? ⟨b, off, none⟩ = some (.int .i64 x0) ∧ w'.cell? ⟨b, off + 1, none⟩ = some (.int .i64 x1) ∧ w'.cell? ⟨c, off2, none⟩ = some (.int .i64 y0) ∧ w'.cell? ⟨c, off2 + 1, none⟩ = some (.int .i64 y1))
        (first | exact keepMS (by assumption) hb1 | go_keep)
        (first | (go_at_call 107; refine (HC.out _).mono ?_; rintro e w2 ⟨rfl, hb1⟩))
      have hd1 := drE0 hb1
      have HB2 := Lib.hid (HBx.out _ hd1)
      have HO2 := Lib.hid (HOx.out _ hd1)
      have HS2 := Lib.hid (Nat.le_trans hsz hd1.size)
      have cx0 := (hd1.cell (p := ⟨b, off, none⟩) hbw).trans cx0
      have cx1 := (hd1.cell (p := ⟨b, off + 1, none⟩) hbw).trans cx1
      have cy0 := (hd1.cell (p := ⟨c, off2, none⟩) hcw).trans cy0
      have cy1 := (hd1.cell (p := ⟨c, off2 + 1, none⟩) hcw).trans cy1
      clear hb1 hd1 HBx HOx HC HBL HO hbw hcw
      rcases hsgn with h | h | h
      · have hc1 : decide (cc < 0) = true := by simpa using h
        have HR := Lib.hid (HLt.out h)
        clear h HLt HEq HGt
        go_wp2_with fail
        go_region_held3 (fun w' => w'.cell? ⟨b, off, none⟩ = some (.int .i64 x0) ∧ w'.cell? ⟨b, off + 1, none⟩ = some (.int .i64 x1))
          (first | assumption | exact keepOS (by assumption) hnb.out HBS.out | exact keepOS (by assumption) ((Below.refl _ _).alloc (Nat.le_refl _) _) (World.block_lt_of_cell? _ _ (And.left (by assumption))) | go_keep)
          ((refine stepApp1 tySmp _ (by rfl) (.tmp 33) (.tmp 37) (by rfl) w.heap.size _ acc (x0, x1) w2.heap.size (by rfl) (by rfl) #[.int .i64 x0, .int .i64 x1] rfl (by first | exact heap_alloc_new .. | (simp; done)) (HO2.out.below (by first | exact (Below.refl _ _).alloc (Nat.le_refl _) _ | exact ((Below.refl _ _).alloc (Nat.le_refl _) _).drew)) (by have := HS2.out; simp; omega) (by omega) ?_; intro g' cap' w3 hown3 hbel3 hgr3 _; have hnb := Lib.hid hbel3))
        have HO3 := Lib.hid hown3
        have HB3 := Lib.hid ((HB2.out.trans (by first | exact ((Below.refl _ _).alloc HS2.out _) | exact (((Below.refl _ _).alloc HS2.out _).drew))).trans hbel3)
        clear hown3 hbel3 hgr3
        go_wp2_with fail
        go_roundw
        case rel => exact ⟨ra, (y0, y1) :: rb, acc ++ [(x0, x1)], HTA.out, HRB.out, by simpa using HO3.out, HR.out, by simp; omega, HB3.out⟩
        case measure => first | (simp [lenG]; done) | (simp [lenG]; omega)
      · subst h
        have HR := Lib.hid (HEq.out rfl)
        clear HLt HEq HGt
        go_wp2_with fail
        go_region_held3 (fun w' => w'.cell? ⟨c, off2, none⟩ = some (.int .i64 y0) ∧ w'.cell? ⟨c, off2 + 1, none⟩ = some (.int .i64 y1))
          (first | assumption | exact keepOS (by assumption) hnb.out HCS.out | exact keepOS (by assumption) ((Below.refl _ _).alloc (Nat.le_refl _) _) (World.block_lt_of_cell? _ _ (And.left (by assumption))) | go_keep)
          ((refine stepApp1 tySmp _ (by rfl) (.tmp 45) (.tmp 49) (by rfl) w.heap.size _ acc (y0, y1) w2.heap.size (by rfl) (by rfl) #[.int .i64 y0, .int .i64 y1] rfl (by first | exact heap_alloc_new .. | (simp; done)) (HO2.out.below (by first | exact (Below.refl _ _).alloc (Nat.le_refl _) _ | exact ((Below.refl _ _).alloc (Nat.le_refl _) _).drew)) (by have := HS2.out; simp; omega) (by omega) ?_; intro g' cap' w3 hown3 hbel3 hgr3 _; have hnb := Lib.hid hbel3))
        have HO3 := Lib.hid hown3
        have HB3 := Lib.hid ((HB2.out.trans (by first | exact ((Below.refl _ _).alloc HS2.out _) | exact (((Below.refl _ _).alloc HS2.out _).drew))).trans hbel3)
        clear hown3 hbel3 hgr3
        go_wp2_with fail
        go_roundw
        case rel => exact ⟨ra, rb, acc ++ [(y0, y1)], HTA.out, HTB.out, by simpa using HO3.out, HR.out, by simp; omega, HB3.out⟩
        case measure => first | (simp [lenG]; done) | (simp [lenG]; omega)
      · have hc1 : decide (cc < 0) = false := by simp; omega
        have hc2 : (cc == 0) = false := by simp; omega
        have HR := Lib.hid (HGt.out h)
        clear h HLt HEq HGt
        go_wp2_with fail
        go_region_held3 (fun w' => w'.cell? ⟨c, off2, none⟩ = some (.int .i64 y0) ∧ w'.cell? ⟨c, off2 + 1, none⟩ = some (.int .i64 y1))
          (first | assumption | exact keepOS (by assumption) hnb.out HCS.out | exact keepOS (by assumption) ((Below.refl _ _).alloc (Nat.le_refl _) _) (World.block_lt_of_cell? _ _ (And.left (by assumption))) | go_keep)
          ((refine stepApp1 tySmp _ (by rfl) (.tmp 45) (.tmp 49) (by rfl) w.heap.size _ acc (y0, y1) w2.heap.size (by rfl) (by rfl) #[.int .i64 y0, .int .i64 y1] rfl (by first | exact heap_alloc_new .. | (simp; done)) (HO2.out.below (by first | exact (Below.refl _ _).alloc (Nat.le_refl _) _ | exact ((Below.refl _ _).alloc (Nat.le_refl _) _).drew)) (by have := HS2.out; simp; omega) (by omega) ?_; intro g' cap' w3 hown3 hbel3 hgr3 _; have hnb := Lib.hid hbel3))
        have HO3 := Lib.hid hown3
        have HB3 := Lib.hid ((HB2.out.trans (by first | exact ((Below.refl _ _).alloc HS2.out _) | exact (((Below.refl _ _).alloc HS2.out _).drew))).trans hbel3)
        clear hown3 hbel3 hgr3
        go_wp2_with fail
        go_roundw
        case rel => exact ⟨(x0, x1) :: ra, rb, acc ++ [(y0, y1)], HRA.out, HTB.out, by simpa using HO3.out, HR.out, by simp; omega, HB3.out⟩
        case measure => first | (simp [lenG]; done) | (simp [lenG]; omega)

end Go.Proofs.YtheenlomlmbjaaaGreatDoor

namespace Go.Proofs.YtheenlomlmbjaaaGreatDoor
open Go.RowKit

theorem hd_Z {w : World} {b off : Nat} {x : Sv} (h : ∀ j u, (encSv x)[j]? = some u → w.cell? ⟨b, off + j, none⟩ = some u) :
    w.cell? ⟨b, off, none⟩ = some (.int .i64 x.1) ∧ w.cell? ⟨b, off + 1, none⟩ = some (.slice x.2.1 x.2.2.1 x.2.2.2) := ⟨h 0 _ rfl, h 1 _ rfl⟩
set_option maxRecDepth 100000 in
theorem tl_Z (b off n cap : Nat) (h1 : n + 1 ≤ cap) (h2 : cap ≤ 9223372036854775807) (w : World) :
    (Instr.sliceAt 42 (.slice (some ⟨b, off, none⟩) (n + 1) cap) (some (.int .i64 1)) none none).run Tryz.prog w = .ok (.slice (if cap = 1 then some ⟨b, off, none⟩ else some ⟨b, off + 2, none⟩) n (cap - 1)) w := by
  rw [run_sliceAt_slice _ _ _ _ _ _ rfl, run_slice_l _ _ _ _ _ rfl _ _ (by omega) (by omega)]
  rfl
theorem keepMZ {w' w'' : World} {b c o p : Nat} {x0 x1 y0 y1 : Value} (h : w'.cell? ⟨b, o, none⟩ = some x0 ∧ w'.cell? ⟨b, o + 1, none⟩ = some x1 ∧ w'.cell? ⟨c, p, none⟩ = some y0 ∧ w'.cell? ⟨c, p + 1, none⟩ = some y1)
    (hb : Below w'.heap.size w' w'') : w''.cell? ⟨b, o, none⟩ = some x0 ∧ w''.cell? ⟨b, o + 1, none⟩ = some x1 ∧ w''.cell? ⟨c, p, none⟩ = some y0 ∧ w''.cell? ⟨c, p + 1, none⟩ = some y1 := by
  obtain ⟨h0, h1, h2, h3⟩ := h
  exact ⟨(hb.cell (World.block_lt_of_cell? w' _ h0)).trans h0, (hb.cell (World.block_lt_of_cell? w' _ h1)).trans h1, (hb.cell (World.block_lt_of_cell? w' _ h2)).trans h2, (hb.cell (World.block_lt_of_cell? w' _ h3)).trans h3⟩
theorem keepOZ {w' w'' : World} {b o B : Nat} {x0 x1 : Value} (h : w'.cell? ⟨b, o, none⟩ = some x0 ∧ w'.cell? ⟨b, o + 1, none⟩ = some x1)
    (hb : Below B w' w'') (hlt : b < B) : w''.cell? ⟨b, o, none⟩ = some x0 ∧ w''.cell? ⟨b, o + 1, none⟩ = some x1 := by
  obtain ⟨h0, h1⟩ := h
  exact ⟨(hb.cell (p := ⟨b, o, none⟩) hlt).trans h0, (hb.cell (p := ⟨b, o + 1, none⟩) hlt).trans h1⟩

def MRelZ (la lb : List Sv) (w : World) (a b o : Value) (wr : World) : Prop :=
  ∃ la' lb' acc : List Sv, RowG 2 encSv w a la' ∧ RowG 2 encSv w b lb' ∧ OwnR 49 2 encSv wr w.heap.size o acc ∧ acc ++ mergeF cmpS la' lb' = mergeF cmpS la lb ∧ acc.length + la'.length + lb'.length ≤ la.length + lb.length ∧ Below w.heap.size w wr

set_option maxRecDepth 100000 in
set_option maxHeartbeats 8000000 in
attribute [local go_sem ↓] Go.wp_at_zero Go.wp_at_succ in
theorem mergeZ_any (a b : Value) (la lb : List Sv) (w : World) (ha : RowG 2 encSv w a la) (hb : RowG 2 encSv w b lb) (hl : la.length ≤ 100000) (hl2 : lb.length ≤ 100000) :
    Calls Tryz.prog 115 #[a, b, idF] w fun e w' => ∃ u, e = .returned u ∧ OwnR 49 2 encSv w' w.heap.size u (mergeF cmpS la lb) ∧ Below w.heap.size w w' := by
  have HA := Lib.hid ha
  have HB := Lib.hid hb
  obtain ⟨aa, ca, rfl, a1, a2, -, -⟩ := ha.src (fun _ => rfl)
  obtain ⟨ab, cb, rfl, b1, b2, -, -⟩ := hb.src (fun _ => rfl)
  clear ha hb
  unfold idF
  obtain ⟨z0, hz, hzk⟩ := tySer.info
  obtain ⟨i0, hi, hz0, hz1, hz2⟩ := info_parts hz
  have hw : IntKind.i64.wrap ((la.length : Int) + lb.length) = ((la.length + lb.length : Nat) : Int) := by rw [IntWalk.i64_in _ (by omega)]; omega
  go_enter Tryz.func115, Tryz.ntmps115
  go_wp2_with (at_make; refine wpList_make_own _ rfl _ _ 42 rfl w.heap.size 49 i0 _ 2 Tryz.underlying42 hi hz0 hz1 _ _ _ (la.length + lb.length) rfl rfl (by first | rfl | simp) (by rw [hz2]; omega) (by simp only [maxLen]; omega) (Nat.le_refl _) ?_; intro w1 hown1 hgrow1)
  have HS0 := Lib.hid (show MRelZ la lb w (.slice aa la.length ca) (.slice ab lb.length cb) (.slice (some ⟨w.heap.size, 0, none⟩) 0 (la.length + lb.length)) w1 from
    ⟨la, lb, [], HA.out, HB.out, hown1, rfl, by simp, (Below.refl w.heap.size w).grown hgrow1 (Nat.le_refl _) (fun k hk => by cases hk)⟩)
  clear hown1 hgrow1 HA HB a1 a2 b1 b2 hw hz hzk hi hz0 hz1 hz2
  go_loopw [0, 1, 7] (fun a b o wr => MRelZ la lb w a b o wr) (fun a b _ _ => lenG a + lenG b)
  case atStart => exact HS0.out
  case round =>
    clear HS0
    obtain ⟨la', lb', acc, hra, hrb, hfit, hacc, hlen, hbl⟩ := hrel
    have HBL := Lib.hid hbl
    have HAC := Lib.hid hacc
    have HRA := Lib.hid hra
    have HRB := Lib.hid hrb
    have HO := Lib.hid hfit
    have hsz := hbl.size
    have hend : (la' = [] ∨ lb' = []) ∨ ∃ x ra y rb, la' = x :: ra ∧ lb' = y :: rb := by
      rcases la' with _ | ⟨x, ra⟩
      · exact .inl (.inl rfl)
      · rcases lb' with _ | ⟨y, rb⟩
        · exact .inl (.inr rfl)
        · exact .inr ⟨x, ra, y, rb, rfl, rfl⟩
    rcases hend with hend | ⟨x, ra, y, rb, rfl, rfl⟩
    · have HF := Lib.hid (show acc ++ la' ++ lb' = mergeF cmpS la lb by
        rw [← hacc]
        rcases hend with rfl | rfl
        · rw [mergeF_nil]; simp
        · rw [mergeF_nil']; simp)
      have HGA := Lib.hid (hra.below hbl)
      obtain ⟨aa, ca, rfl, a1, a2, -, -⟩ := hra.src (fun _ => rfl)
      obtain ⟨ab, cb, rfl, b1, b2, -, -⟩ := hrb.src (fun _ => rfl)
      have hla : la'.length ≤ 200000 := by omega
      have hlb : lb'.length ≤ 200000 := by omega
      have hlo : acc.length ≤ 200000 := by omega
      have hcase : (la'.length = 0) ∨ (0 < la'.length ∧ lb'.length = 0) := by
        rcases hend with rfl | rfl
        · exact .inl rfl
        · rcases Nat.eq_zero_or_pos la'.length with h | h
          · exact .inl h
          · exact .inr ⟨h, rfl⟩
      clear hacc hra hrb hfit hbl hlen hend
      have HT1 := Lib.hid (fun w3 (h : Below w.heap.size wr w3) => HRB.out.below (HBL.out.trans h))
      rcases hcase with h | ⟨h, h2⟩
      · have d1 : decide (0 < la'.length) = false := by rw [h]; rfl
        clear h
        go_wp2_with (first
          | (at_builtin; refine appG tySer _ rfl (.tmp 53) (.tmp 54) rfl w.heap.size _ _ acc la' rfl rfl HO.out HGA.out (by omega) hsz ?_; intro v2 w2 hown2 hbel2; have HO2 := Lib.hid hown2; have HB2 := Lib.hid hbel2; have HS2 := Lib.hid (Nat.le_trans hsz hbel2.size); clear hown2 hbel2)
          | (at_builtin; refine appG tySer _ rfl (.tmp 55) (.tmp 56) rfl w.heap.size _ _ (acc ++ la') lb' rfl rfl HO2.out (HT1.out _ HB2.out) (by simp; omega) HS2.out ?_; intro v3 w3 hown3 hbel3))
        go_ret
        exact ⟨_, rfl, by rw [← HF.out]; exact hown3, (HBL.out.trans HB2.out).trans hbel3⟩
      · have d1 : decide (0 < la'.length) = true := by simp; omega
        have d2 : decide (0 < lb'.length) = false := by rw [h2]; rfl
        clear h h2
        go_wp2_with (first
          | (at_builtin; refine appG tySer _ rfl (.tmp 53) (.tmp 54) rfl w.heap.size _ _ acc la' rfl rfl HO.out HGA.out (by omega) hsz ?_; intro v2 w2 hown2 hbel2; have HO2 := Lib.hid hown2; have HB2 := Lib.hid hbel2; have HS2 := Lib.hid (Nat.le_trans hsz hbel2.size); clear hown2 hbel2)
          | (at_builtin; refine appG tySer _ rfl (.tmp 55) (.tmp 56) rfl w.heap.size _ _ (acc ++ la') lb' rfl rfl HO2.out (HT1.out _ HB2.out) (by simp; omega) HS2.out ?_; intro v3 w3 hown3 hbel3))
        go_ret
        exact ⟨_, rfl, by rw [← HF.out]; exact hown3, (HBL.out.trans HB2.out).trans hbel3⟩
    · obtain ⟨b, off, ca, rfl, a1, a2, hbs, hcx, htx⟩ := hra.cons
      obtain ⟨c, off2, cb, rfl, b1, b2, hcs, hcy, hty⟩ := hrb.cons
      have HTA := Lib.hid (htx rfl)
      have HTB := Lib.hid (hty rfl)
      have hta := tl_Z b off ra.length ca a1 a2
      have htb := tl_Z c off2 rb.length cb b1 b2
      have HX := Lib.hid (hd_Z (fun j u hj => (hbl.cell (p := ⟨b, off + j, none⟩) hbs).trans (hcx j u hj)))
      have HY := Lib.hid (hd_Z (fun j u hj => (hbl.cell (p := ⟨c, off2 + j, none⟩) hcs).trans (hcy j u hj)))
      obtain ⟨ta, hta1⟩ : ∃ t, t = (if ca = 1 then some (⟨b, off, none⟩ : Addr) else some ⟨b, off + 2, none⟩) := ⟨_, rfl⟩
      obtain ⟨tb, htb1⟩ : ∃ t, t = (if cb = 1 then some (⟨c, off2, none⟩ : Addr) else some ⟨c, off2 + 2, none⟩) := ⟨_, rfl⟩
      rw [← hta1] at hta HTA
      rw [← htb1] at htb HTB
      clear hta1 htb1 hcx hcy htx hty hra hrb
      have HC := Lib.hid (fun w => byID_any x.1 y.1 x.2.1 y.2.1 x.2.2.1 y.2.2.1 x.2.2.2 y.2.2.2 w)
      have hlen' : acc.length + ra.length + rb.length + 2 ≤ la.length + lb.length := by simp at hlen; omega
      have HLt := Lib.hid (fun h : cmpS x y < 0 => show acc ++ [x] ++ mergeF cmpS ra (y :: rb) = mergeF cmpS la lb by rw [← hacc, mergeF_lt h]; simp)
      have HEq := Lib.hid (fun h : cmpS x y = 0 => show acc ++ [y] ++ mergeF cmpS ra rb = mergeF cmpS la lb by rw [← hacc, mergeF_eq h]; simp)
      have HGt := Lib.hid (fun h : 0 < cmpS x y => show acc ++ [y] ++ mergeF cmpS (x :: ra) rb = mergeF cmpS la lb by rw [← hacc, mergeF_gt h]; simp)
      clear hlen hacc HAC
      have hbw := Nat.lt_of_lt_of_le hbs hsz
      have hcw := Nat.lt_of_lt_of_le hcs hsz
      have HBS := Lib.hid hbs
      have HCS := Lib.hid hcs
      clear hbs hcs
      have HBx := Lib.hid (fun W (h : Below wr.heap.size wr W) => HBL.out.trans (h.mono hsz))
      have HOx := Lib.hid (fun W (h : Below wr.heap.size wr W) => HO.out.below h)
      obtain ⟨x0, x1, x2, x3⟩ := x
      obtain ⟨y0, y1, y2, y3⟩ := y
      obtain ⟨cx0, cx1⟩ := HX.out
      obtain ⟨cy0, cy1⟩ := HY.out
      clear HX HY
      simp only at cx0 cx1 cy0 cy1 HC
      try (simp only [show ∀ a b : Sv, cmpS a b = cmpS a b from fun _ _ => rfl] at HC)
      have HCC := Lib.hid (show ∀ z, cmpS (x0, x1, x2, x3) (y0, y1, y2, y3) = z → cmpS (x0, x1, x2, x3) (y0, y1, y2, y3) = z from fun _ h => h)
      change Hid (∀ w, Calls Tryz.prog 110 #[.agg #[.int .i64 x0, .slice x1 x2 x3], .agg #[.int .i64 y0, .slice y1 y2 y3]] w fun e w' => e = .returned (.int .i64 (cmpS (x0, x1, x2, x3) (y0, y1, y2, y3))) ∧ Below w.heap.size w w') at HC
      generalize cmpS (x0, x1, x2, x3) (y0, y1, y2, y3) = cc at *
      have hsgn : cc < 0 ∨ cc = 0 ∨ 0 < cc := by omega
      clear hbl hfit HCC
      go_wp2_with fail
      go_region_held3 (fun w' => w'.cell? ⟨b, off, none⟩ = some (.int .i64 x0) ∧ w'.cell? ⟨b, off + 1, none⟩ = some (.slice x1 x2 x3) ∧ w'.cell? ⟨c, off2, none⟩ = some (.int .i64 y0) ∧ w'.cell? ⟨c, off2 + 1, none⟩ = some (.slice y1 y2 y3))
        (first | exact keepMZ (by assumption) hb1 | go_keep)
        (first | (go_at_call 110; refine (HC.out _).mono ?_; rintro e w2 ⟨rfl, hb1⟩))
      have hd1 := drE0 hb1
      have HB2 := Lib.hid (HBx.out _ hd1)
      have HO2 := Lib.hid (HOx.out _ hd1)
      have HS2 := Lib.hid (Nat.le_trans hsz hd1.size)
      have cx0 := (hd1.cell (p := ⟨b, off, none⟩) hbw).trans cx0
      have cx1 := (hd1.cell (p := ⟨b, off + 1, none⟩) hbw).trans cx1
      have cy0 := (hd1.cell (p := ⟨c, off2, none⟩) hcw).trans cy0
      have cy1 := (hd1.cell (p := ⟨c, off2 + 1, none⟩) hcw).trans cy1
      clear hb1 hd1 HBx HOx HC HBL HO hbw hcw
      rcases hsgn with h | h | h
      · have hc1 : decide (cc < 0) = true := by simpa using h
        have HR := Lib.hid (HLt.out h)
        clear h HLt HEq HGt
        go_wp2_with fail
        go_region_held3 (fun w' => w'.cell? ⟨b, off, none⟩ = some (.int .i64 x0) ∧ w'.cell? ⟨b, off + 1, none⟩ = some (.slice x1 x2 x3))
          (first | assumption | exact keepOZ (by assumption) hnb.out HBS.out | exact keepOZ (by assumption) ((Below.refl _ _).alloc (Nat.le_refl _) _) (World.block_lt_of_cell? _ _ (And.left (by assumption))) | go_keep)
          ((refine stepApp1 tySer _ (by rfl) (.tmp 33) (.tmp 37) (by rfl) w.heap.size _ acc (x0, x1, x2, x3) w2.heap.size (by rfl) (by rfl) #[.int .i64 x0, .slice x1 x2 x3] rfl (by first | exact heap_alloc_new .. | (simp; done)) (HO2.out.below (by first | exact (Below.refl _ _).alloc (Nat.le_refl _) _ | exact ((Below.refl _ _).alloc (Nat.le_refl _) _).drew)) (by have := HS2.out; simp; omega) (by omega) ?_; intro g' cap' w3 hown3 hbel3 hgr3 _; have hnb := Lib.hid hbel3))
        have HO3 := Lib.hid hown3
        have HB3 := Lib.hid ((HB2.out.trans (by first | exact ((Below.refl _ _).alloc HS2.out _) | exact (((Below.refl _ _).alloc HS2.out _).drew))).trans hbel3)
        clear hown3 hbel3 hgr3
        go_wp2_with fail
        go_roundw
        case rel => exact ⟨ra, (y0, y1, y2, y3) :: rb, acc ++ [(x0, x1, x2, x3)], HTA.out, HRB.out, by simpa using HO3.out, HR.out, by simp; omega, HB3.out⟩
        case measure => first | (simp [lenG]; done) | (simp [lenG]; omega)
      · subst h
        have HR := Lib.hid (HEq.out rfl)
        clear HLt HEq HGt
        go_wp2_with fail
        go_region_held3 (fun w' => w'.cell? ⟨c, off2, none⟩ = some (.int .i64 y0) ∧ w'.cell? ⟨c, off2 + 1, none⟩ = some (.slice y1 y2 y3))
          (first | assumption | exact keepOZ (by assumption) hnb.out HCS.out | exact keepOZ (by assumption) ((Below.refl _ _).alloc (Nat.le_refl _) _) (World.block_lt_of_cell? _ _ (And.left (by assumption))) | go_keep)
          ((refine stepApp1 tySer _ (by rfl) (.tmp 45) (.tmp 49) (by rfl) w.heap.size _ acc (y0, y1, y2, y3) w2.heap.size (by rfl) (by rfl) #[.int .i64 y0, .slice y1 y2 y3] rfl (by first | exact heap_alloc_new .. | (simp; done)) (HO2.out.below (by first | exact (Below.refl _ _).alloc (Nat.le_refl _) _ | exact ((Below.refl _ _).alloc (Nat.le_refl _) _).drew)) (by have := HS2.out; simp; omega) (by omega) ?_; intro g' cap' w3 hown3 hbel3 hgr3 _; have hnb := Lib.hid hbel3))
        have HO3 := Lib.hid hown3
        have HB3 := Lib.hid ((HB2.out.trans (by first | exact ((Below.refl _ _).alloc HS2.out _) | exact (((Below.refl _ _).alloc HS2.out _).drew))).trans hbel3)
        clear hown3 hbel3 hgr3
        go_wp2_with fail
        go_roundw
        case rel => exact ⟨ra, rb, acc ++ [(y0, y1, y2, y3)], HTA.out, HTB.out, by simpa using HO3.out, HR.out, by simp; omega, HB3.out⟩
        case measure => first | (simp [lenG]; done) | (simp [lenG]; omega)
      · have hc1 : decide (cc < 0) = false := by simp; omega
        have hc2 : (cc == 0) = false := by simp; omega
        have HR := Lib.hid (HGt.out h)
        clear h HLt HEq HGt
        go_wp2_with fail
        go_region_held3 (fun w' => w'.cell? ⟨c, off2, none⟩ = some (.int .i64 y0) ∧ w'.cell? ⟨c, off2 + 1, none⟩ = some (.slice y1 y2 y3))
          (first | assumption | exact keepOZ (by assumption) hnb.out HCS.out | exact keepOZ (by assumption) ((Below.refl _ _).alloc (Nat.le_refl _) _) (World.block_lt_of_cell? _ _ (And.left (by assumption))) | go_keep)
          ((refine stepApp1 tySer _ (by rfl) (.tmp 45) (.tmp 49) (by rfl) w.heap.size _ acc (y0, y1, y2, y3) w2.heap.size (by rfl) (by rfl) #[.int .i64 y0, .slice y1 y2 y3] rfl (by first | exact heap_alloc_new .. | (simp; done)) (HO2.out.below (by first | exact (Below.refl _ _).alloc (Nat.le_refl _) _ | exact ((Below.refl _ _).alloc (Nat.le_refl _) _).drew)) (by have := HS2.out; simp; omega) (by omega) ?_; intro g' cap' w3 hown3 hbel3 hgr3 _; have hnb := Lib.hid hbel3))
        have HO3 := Lib.hid hown3
        have HB3 := Lib.hid ((HB2.out.trans (by first | exact ((Below.refl _ _).alloc HS2.out _) | exact (((Below.refl _ _).alloc HS2.out _).drew))).trans hbel3)
        clear hown3 hbel3 hgr3
        go_wp2_with fail
        go_roundw
        case rel => exact ⟨(x0, x1, x2, x3) :: ra, rb, acc ++ [(y0, y1, y2, y3)], HRA.out, HTB.out, by simpa using HO3.out, HR.out, by simp; omega, HB3.out⟩
        case measure => first | (simp [lenG]; done) | (simp [lenG]; omega)

end Go.Proofs.YtheenlomlmbjaaaGreatDoor
