/-
  The region of runs.Encode that writes a row, in whatever order it goes.
-/
import Derived.Test.YtnjcelilljniaaaTChunk
import Derived.Test.YtnjcelilljniaaaTDet
namespace Go.Proofs.Ytnjcelilljniaaa
open Go.RowKit Go.Shelf

/-- How one operation of a region stands written. -/
def OpI (ops : Array Oper) (i d : Nat) (op : Op) : Prop := ∃ o, ops[i]? = some o ∧ o.guard = none ∧ o.dst = some d ∧ o.op = op

section
variable {F : Fence} {n : Nat} {P : Program} {ops : Array Oper} {i d : Nat} {op : Op} {a : Act} {w w' : World} {K : Act → World → Prop} {Q : Exit → Act → World → Prop}
theorem opVal (ho : OpI ops i d op) (hc : ∀ c, op ≠ .call c) (hd : ∀ c, op ≠ .defer c) {y : Value} (hr : ∀ o : Oper, o.op = op → (execOp a.eval o).run P w = .ok (.value y) w') (h : K (a.put (some d) y) w') : wpOpIn F n P ops Q i K a w := by
  obtain ⟨o, h1, h2, h3, h4⟩ := ho
  simp only [wpOpIn, h1]
  rw [if_pos (by simp [Region.wanted, h2])]
  refine opIn (by rw [h4]; exact hd) ?_ (hr o h4) (by rw [h3]; exact h)
  unfold Oper.about
  rw [h4]
  cases op <;> first | rfl | exact absurd rfl (hc _)
theorem opCall {f : FuncId} {cc : Call} (ho : OpI ops i d (.call cc)) (hF : ∀ g, F.fn g) (hdep : F.depth.isSome = true → 1 ≤ n) {args : Array Value} (hr : ∀ o : Oper, o.op = .call cc → (execOp a.eval o).run P w = .ok (.enter f args) w)
    (hc : CallsIn F (n - 1) P f args w fun e w' => ∃ v, e = .returned v ∧ K (a.put (some d) v) w') : wpOpIn F n P ops Q i K a w := by
  obtain ⟨o, h1, h2, h3, h4⟩ := ho
  simp only [wpOpIn, h1]
  rw [if_pos (by simp [Region.wanted, h2])]
  unfold Oper.wpIn
  refine ⟨fun g _ => hF g, ?_⟩
  rw [Oper.semAt_plain F _ _ (by rw [h4]; intro c e; cases e), hr o h4]
  rw [Oper.uponIn_enter]
  refine ⟨hdep, hc.mono ?_⟩
  rintro e w' ⟨v, rfl, h⟩
  rw [h3]
  exact h
end

/-- What an operation waits for. -/
def dep19 (i : Nat) : List Nat := [[], [0], [], [1, 2], [3], [4], [], [6], [7], [8], [5, 9], [], [11], [12], [10, 13], [14]].getD i []
/-- How the region stands written. -/
structure R19 (ops : Array Oper) : Prop where
  size : ops.size = 16
  o0 : OpI ops 0 77 (.fieldAddr 27 (.tmp 13) 0)
  o1 : OpI ops 1 78 (.load 3 (.tmp 77))
  o2 : OpI ops 2 79 (.move (.tmp 11))
  o3 : OpI ops 3 80 (.binOp .sub 3 (.tmp 78) (.tmp 79) 3)
  o4 : OpI ops 4 81 (.convert 3 37 (.tmp 80))
  o5 : OpI ops 5 82 (.call { callee := .value (.func 8), args := #[.tmp 81], argTypes := #[37] })
  o6 : OpI ops 6 83 (.fieldAddr 27 (.tmp 13) 1)
  o7 : OpI ops 7 84 (.load 3 (.tmp 83))
  o8 : OpI ops 8 85 (.convert 3 37 (.tmp 84))
  o9 : OpI ops 9 86 (.call { callee := .value (.func 8), args := #[.tmp 85], argTypes := #[37] })
  o10 : OpI ops 10 87 (.binOp .add 9 (.tmp 82) (.tmp 86) 9)
  o11 : OpI ops 11 88 (.fieldAddr 27 (.tmp 13) 2)
  o12 : OpI ops 12 89 (.load 3 (.tmp 88))
  o13 : OpI ops 13 90 (.call { callee := .value (.func 9), args := #[.tmp 89], argTypes := #[3] })
  o14 : OpI ops 14 91 (.binOp .add 9 (.tmp 87) (.tmp 90) 9)
  o15 : OpI ops 15 92 (.call { callee := .value (.func 28), args := #[.tmp 7, .tmp 91], argTypes := #[65, 9] })
  dep : ∀ i l, i ∈ Region.ready .any ops l → ∀ j ∈ dep19 i, l.getD j false = true
  back : ((List.range ops.size).all fun k => ((ops[k]?).map fun o => o.after.all fun e => decide (e.on < k)).getD true) = true

noncomputable def V19 (B A C d : Nat) (v : Int) (i : Nat) : Value :=
  [.pointer (some ⟨B, 0, none⟩), .int .i64 A, .int .i64 C, .int .i64 d, .int .u64 d, .string (bs (uintL d)), .pointer (some ⟨B, 1, none⟩), .int .i64 7, .int .u64 7, .string (bs (uintL 7)), .string (bs (uintL d ++ uintL 7)),
    .pointer (some ⟨B, 2, none⟩), .int .i64 v, .string (bs (uintL (foldN v))), .string (bs (uintL d ++ uintL 7 ++ uintL (foldN v))), .tuple #[.int .i64 (uintL d ++ uintL 7 ++ uintL (foldN v)).length, .nilIface]].getD i undef

def Rel19 (h B A : Nat) (v : Int) (HH BB : Bytes) (W w : World) : Prop := w.heap[B]? = some (.cells #[.int .i64 A, .int .i64 7, .int .i64 v] 27 (0, 0)) ∧ TwoB h HH BB w ∧ TKeep h W w
theorem Rel19.below {h B A : Nat} {v : Int} {HH BB : Bytes} {W w w' : World} (x : Rel19 h B A v HH BB W w) (hb : Below w.heap.size w w') : Rel19 h B A v HH BB W w' :=
  ⟨(hb.block B (lt_of_heap x.1)).trans x.1, x.2.1.below hb, x.2.2.trans (TKeep.own hb (by have := x.2.1.lt; omega))⟩

theorem run_fa (w : World) (B j : Nat) (hj : j = 0 ∨ j = 1 ∨ j = 2) : (Instr.fieldAt 27 (.pointer (some ⟨B, 0, none⟩)) j).run Try.prog w = .ok (.pointer (some ⟨B, j, none⟩)) w := by
  rcases hj with rfl | rfl | rfl <;> simp [go_sem]
theorem run_ldI {w : World} {B j : Nat} {x : Int} (h : w.cell? ⟨B, j, none⟩ = some (.int .i64 x)) : (Instr.loadAt 3 (.pointer (some ⟨B, j, none⟩))).run Try.prog w = .ok (.int .i64 x) w := by
  simp [go_sem, Instr.loadAt, Instr.sureAddr, h]
theorem run_subI (w : World) (x y z : Int) (h : IntKind.i64.wrap (x - y) = z) : (binOp .sub 3 (.int .i64 x) (.int .i64 y)).run Try.prog w = .ok (.int .i64 z) w := by
  simp [go_sem, h]
theorem run_cvI (w : World) (x y : Int) (h : IntKind.u64.wrap x = y) : (convert 3 37 (.int .i64 x)).run Try.prog w = .ok (.int .u64 y) w := by
  simp [go_sem, h]
theorem run_cat (w : World) (x y : Bytes) (h : ¬ (x.length + y.length > 9223372036854775807)) : (binOp .add 9 (.string (bs x)) (.string (bs y))).run Try.prog w = .ok (.string (bs (x ++ y))) w := by
  simp [go_sem, h]

theorem run_eg (w : World) (op : BinOp) (hop : op = .sub ∨ op = .add) (t : TypeId) (x y : Operand) (u v : Value) : (eqGuard op t x y u v).run Try.prog w = .ok () w := by
  rcases hop with rfl | rfl <;> simp [eqGuard]

theorem enter_run (f : FuncId) (hf : f = 8 ∨ f = 9 ∨ f = 28) (args : Array Value) (w : World) : (callFunc f args).run Try.prog w = .ok (.enter f args) w := by
  rcases hf with rfl | rfl | rfl <;> kernel_rfl

theorem call_run {a : Act} {w : World} {f : FuncId} {xs : Array Operand} {vs : Array Value} {ts : Array TypeId} (hf : f = 8 ∨ f = 9 ∨ f = 28) (hx : xs.map a.eval = vs) (o : Oper) (ho : o.op = .call { callee := .value (.func f), args := xs, argTypes := ts }) :
    (execOp a.eval o).run Try.prog w = .ok (.enter f vs) w := by
  unfold execOp
  simp only [ho, resolve, hx]
  simp [Act.eval, Deferred.ofValue, invoke, Sem.run_bind, Result.andThen, enter_run f hf]

set_option maxRecDepth 100000 in
set_option maxHeartbeats 1000000 in
theorem region19 {ops : Array Oper} (hR : R19 ops) {n r id : Nat} {Q : Exit → Act → World → Prop} {h B A C d : Nat} {v : Int} {HH BB : Bytes} {a0 : Act} {W0 W : World} (ha : a0.tmps.size = 115)
    (h13 : a0.eval (.tmp 13) = .pointer (some ⟨B, 0, none⟩)) (h11 : a0.eval (.tmp 11) = .int .i64 C) (h7 : a0.eval (.tmp 7) = .pointer (some ⟨h + 1, 0, none⟩)) (hB1 : B ≠ h) (hB2 : B ≠ h + 1) (hd : A = C + d) (hdl : d ≤ 300) (hA : A ≤ 40000)
    (hv0 : -9223372036854775808 ≤ v) (hv1 : v ≤ 9223372036854775807) (hlen : BB.length ≤ 5000) (hrel : Rel19 h B A v HH BB W0 W.drew)
    (hQ : ∀ w, Rel19 h B A v HH (BB ++ (uintL d ++ uintL 7 ++ uintL (foldN v))) W0 w → Q .normal (setAll (77 + ·) (V19 B A C d v) (Array.replicate 16 true) 16 a0) w) :
    (Code.region id ops true).wpIn (Fence.wide.inRound r) n Try.prog Q a0 W := by
  have hs2 : (A : Int) - (C : Int) = (d : Int) := by omega
  have hs1 : IntKind.i64.wrap ((A : Int) - (C : Int)) = (d : Int) := by rw [hs2]; exact IntWalk.i64_in _ (by omega)
  have hs3 : IntKind.u64.wrap (d : Int) = d := by rw [IntKind.wrap_u64]; omega
  have hu1 := uintL_len10 (n := d) (by omega)
  have hu2 := uintL_len10 (n := 7) (by omega)
  have hu3 := uintL_len10 (foldN_lt hv0 hv1)
  have hg1 : ¬ ((uintL d).length + (uintL 7).length > 9223372036854775807) := by omega
  have hg2 : ¬ ((uintL d ++ uintL 7).length + (uintL (foldN v)).length > 9223372036854775807) := by rw [List.length_append]; omega
  have hne : uintL d ++ uintL 7 ++ uintL (foldN v) ≠ [] := fun e => uintL_ne d (List.append_eq_nil_iff.1 (List.append_eq_nil_iff.1 e).1).1
  have hl8 : BB.length + (uintL d ++ uintL 7 ++ uintL (foldN v)).length ≤ 1000000000000 := by simp only [List.length_append]; omega
  have hcell : ∀ w, Rel19 h B A v HH BB W0 w → w.cell? ⟨B, 0, none⟩ = some (.int .i64 A) ∧ w.cell? ⟨B, 1, none⟩ = some (.int .i64 7) ∧ w.cell? ⟨B, 2, none⟩ = some (.int .i64 v) := fun w hw =>
    ⟨by rw [cell_of_row w _ _ _ _ _ hw.1]; rfl, by rw [cell_of_row w _ _ _ _ _ hw.1]; rfl, by rw [cell_of_row w _ _ _ _ _ hw.1]; rfl⟩
  have hF : ∀ g, (Fence.wide.inRound r).fn g := fun g => trivial
  have hdp : (Fence.wide.inRound r).depth.isSome = true → 1 ≤ n := fun e => by cases e
  refine wpIn_region_any (by kernel_rfl) ?_
  have hsz := hR.size
  refine wpAnyIn_det (77 + ·) (V19 B A C d v) (Rel19 h B A v HH BB W0) (Rel19 h B A v HH (BB ++ (uintL d ++ uintL 7 ++ uintL (foldN v))) W0) a0 15 hsz (fun j hj => by omega) (fun i j _ _ e => by omega) ?_ ?_ dep19 hR.dep ?_ hR.back hQ _ hrel _ (by rw [hsz]; decide)
  · intro i l a w hi hrd hb hv hw
    have hdq := hR.dep i l hrd
    obtain ⟨k0, k1, k2⟩ := hcell w hw
    have g13 := (hb 13 (fun j hj => by omega)).trans h13
    have g11 := (hb 11 (fun j hj => by omega)).trans h11
    have gv : ∀ j, j < 16 → l.getD j false = true → a.eval (.tmp (77 + j)) = V19 B A C d v j := hv
    have hcases : i = 0 ∨ i = 1 ∨ i = 2 ∨ i = 3 ∨ i = 4 ∨ i = 5 ∨ i = 6 ∨ i = 7 ∨ i = 8 ∨ i = 9 ∨ i = 10 ∨ i = 11 ∨ i = 12 ∨ i = 13 ∨ i = 14 := by omega
    rcases hcases with rfl | rfl | rfl | rfl | rfl | rfl | rfl | rfl | rfl | rfl | rfl | rfl | rfl | rfl | rfl
    · exact opVal hR.o0 (by intro c e; cases e) (by intro c e; cases e) (y := V19 B A C d v 0) (fun o ho => by unfold execOp; simp only [ho, g13, Sem.run_bind, run_fa w B 0 (by omega), Result.andThen_ok, Sem.run_pure]; rfl) ⟨rfl, hw⟩
    · have e0 := gv 0 (by omega) (hdq _ (by decide))
      exact opVal hR.o1 (by intro c e; cases e) (by intro c e; cases e) (y := V19 B A C d v 1) (fun o ho => by unfold execOp; simp only [ho]; rw [show a.eval (.tmp 77) = .pointer (some ⟨B, 0, none⟩) from e0]; simp only [Sem.run_bind, run_ldI k0, Result.andThen_ok, Sem.run_pure]; rfl) ⟨rfl, hw⟩
    · exact opVal hR.o2 (by intro c e; cases e) (by intro c e; cases e) (y := V19 B A C d v 2) (fun o ho => by unfold execOp; simp only [ho, g11, Sem.run_pure]; rfl) ⟨rfl, hw⟩
    · have e1 := gv 1 (by omega) (hdq _ (by decide))
      have e2 := gv 2 (by omega) (hdq _ (by decide))
      exact opVal hR.o3 (by intro c e; cases e) (by intro c e; cases e) (y := V19 B A C d v 3) (fun o ho => by unfold execOp; simp only [ho]; rw [show a.eval (.tmp 78) = .int .i64 A from e1, show a.eval (.tmp 79) = .int .i64 C from e2]; simp only [Sem.run_bind, run_eg w .sub (.inl rfl), run_subI w _ _ _ hs1, Result.andThen_ok, Sem.run_pure]; rfl) ⟨rfl, hw⟩
    · have e0 := gv 3 (by omega) (hdq _ (by decide))
      exact opVal hR.o4 (by intro c e; cases e) (by intro c e; cases e) (y := V19 B A C d v 4) (fun o ho => by unfold execOp; simp only [ho]; rw [show a.eval (.tmp 80) = .int .i64 (d : Int) from e0]; simp only [Sem.run_bind, run_cvI w _ _ hs3, Result.andThen_ok, Sem.run_pure]; rfl) ⟨rfl, hw⟩
    · have e0 := gv 4 (by omega) (hdq _ (by decide))
      refine opCall hR.o5 hF hdp (f := 8) (args := #[.int .u64 d]) (call_run (by decide) (by simp only [List.map_toArray, List.map_cons, List.map_nil]; rw [show a.eval (.tmp 81) = .int .u64 d from e0])) ((CallsIn.inRound r (callsIn_wide.2 (uint_any d w (by omega)))).mono ?_)
      rintro e w' ⟨rfl, hb'⟩
      exact ⟨_, rfl, rfl, hw.below hb'⟩
    · exact opVal hR.o6 (by intro c e; cases e) (by intro c e; cases e) (y := V19 B A C d v 6) (fun o ho => by unfold execOp; simp only [ho, g13, Sem.run_bind, run_fa w B 1 (by omega), Result.andThen_ok, Sem.run_pure]; rfl) ⟨rfl, hw⟩
    · have e0 := gv 6 (by omega) (hdq _ (by decide))
      exact opVal hR.o7 (by intro c e; cases e) (by intro c e; cases e) (y := V19 B A C d v 7) (fun o ho => by unfold execOp; simp only [ho]; rw [show a.eval (.tmp 83) = .pointer (some ⟨B, 1, none⟩) from e0]; simp only [Sem.run_bind, run_ldI k1, Result.andThen_ok, Sem.run_pure]; rfl) ⟨rfl, hw⟩
    · have e0 := gv 7 (by omega) (hdq _ (by decide))
      exact opVal hR.o8 (by intro c e; cases e) (by intro c e; cases e) (y := V19 B A C d v 8) (fun o ho => by unfold execOp; simp only [ho]; rw [show a.eval (.tmp 84) = .int .i64 7 from e0]; simp only [Sem.run_bind, run_cvI w 7 7 (by decide), Result.andThen_ok, Sem.run_pure]; rfl) ⟨rfl, hw⟩
    · have e0 := gv 8 (by omega) (hdq _ (by decide))
      refine opCall hR.o9 hF hdp (f := 8) (args := #[.int .u64 7]) (call_run (by decide) (by simp only [List.map_toArray, List.map_cons, List.map_nil]; rw [show a.eval (.tmp 85) = .int .u64 7 from e0])) ((CallsIn.inRound r (callsIn_wide.2 (uint_any 7 w (by omega)))).mono ?_)
      rintro e w' ⟨rfl, hb'⟩
      exact ⟨_, rfl, rfl, hw.below hb'⟩
    · have e0 := gv 5 (by omega) (hdq _ (by decide))
      have e1 := gv 9 (by omega) (hdq _ (by decide))
      exact opVal hR.o10 (by intro c e; cases e) (by intro c e; cases e) (y := V19 B A C d v 10) (fun o ho => by unfold execOp; simp only [ho]; rw [show a.eval (.tmp 82) = .string (bs (uintL d)) from e0, show a.eval (.tmp 86) = .string (bs (uintL 7)) from e1]; simp only [Sem.run_bind, run_eg w .add (.inr rfl), run_cat w _ _ hg1, Result.andThen_ok, Sem.run_pure]; rfl) ⟨rfl, hw⟩
    · exact opVal hR.o11 (by intro c e; cases e) (by intro c e; cases e) (y := V19 B A C d v 11) (fun o ho => by unfold execOp; simp only [ho, g13, Sem.run_bind, run_fa w B 2 (by omega), Result.andThen_ok, Sem.run_pure]; rfl) ⟨rfl, hw⟩
    · have e0 := gv 11 (by omega) (hdq _ (by decide))
      exact opVal hR.o12 (by intro c e; cases e) (by intro c e; cases e) (y := V19 B A C d v 12) (fun o ho => by unfold execOp; simp only [ho]; rw [show a.eval (.tmp 88) = .pointer (some ⟨B, 2, none⟩) from e0]; simp only [Sem.run_bind, run_ldI k2, Result.andThen_ok, Sem.run_pure]; rfl) ⟨rfl, hw⟩
    · have e0 := gv 12 (by omega) (hdq _ (by decide))
      refine opCall hR.o13 hF hdp (f := 9) (args := #[.int .i64 v]) (call_run (by decide) (by simp only [List.map_toArray, List.map_cons, List.map_nil]; rw [show a.eval (.tmp 89) = .int .i64 v from e0])) ((CallsIn.inRound r (callsIn_wide.2 (int_any v w hv0 hv1))).mono ?_)
      rintro e w' ⟨rfl, hb'⟩
      exact ⟨_, rfl, rfl, hw.below hb'⟩
    · have e0 := gv 10 (by omega) (hdq _ (by decide))
      have e1 := gv 13 (by omega) (hdq _ (by decide))
      exact opVal hR.o14 (by intro c e; cases e) (by intro c e; cases e) (y := V19 B A C d v 14) (fun o ho => by unfold execOp; simp only [ho]; rw [show a.eval (.tmp 87) = .string (bs (uintL d ++ uintL 7)) from e0, show a.eval (.tmp 90) = .string (bs (uintL (foldN v))) from e1]; simp only [Sem.run_bind, run_eg w .add (.inr rfl), run_cat w _ _ hg2, Result.andThen_ok, Sem.run_pure]; rfl) ⟨rfl, hw⟩
  · intro l a w hrd hb hv hw
    have p15 := hR.dep 15 l hrd 14 (by decide)
    have e14 : a.eval (.tmp (77 + 14)) = V19 B A C d v 14 := hv 14 (by omega) p15
    have g7 := (hb 7 (fun j hj => by omega)).trans h7
    refine opCall hR.o15 hF hdp (f := 28) (args := #[.pointer (some ⟨h + 1, 0, none⟩), .string (bs (uintL d ++ uintL 7 ++ uintL (foldN v)))]) (call_run (by decide) (by simp only [List.map_toArray, List.map_cons, List.map_nil]; rw [show a.eval (.tmp 91) = .string (bs (uintL d ++ uintL 7 ++ uintL (foldN v))) from e14, g7])) ((CallsIn.inRound r (callsIn_wide.2 (write2K_any _ hw.2.1 hl8 hne))).mono ?_)
    rintro e w' ⟨rfl, t', k'⟩
    exact ⟨_, rfl, rfl, k'.cells hw.1 (by decide) hB1 hB2, t', hw.2.2.trans k'⟩
  · intro l hcl h15 j hj
    have d := fun i (hi : i < 16) (hl : l.getD i false = true) j (hj : j ∈ dep19 i) => hcl i hi hl j hj
    have a14 := h15 14 (by decide)
    have a10 := d 14 (by omega) a14 10 (by decide)
    have a13 := d 14 (by omega) a14 13 (by decide)
    have a5 := d 10 (by omega) a10 5 (by decide)
    have a9 := d 10 (by omega) a10 9 (by decide)
    have a4 := d 5 (by omega) a5 4 (by decide)
    have a3 := d 4 (by omega) a4 3 (by decide)
    have a1 := d 3 (by omega) a3 1 (by decide)
    have a2 := d 3 (by omega) a3 2 (by decide)
    have a0 := d 1 (by omega) a1 0 (by decide)
    have a8 := d 9 (by omega) a9 8 (by decide)
    have a7 := d 8 (by omega) a8 7 (by decide)
    have a6 := d 7 (by omega) a7 6 (by decide)
    have a12 := d 13 (by omega) a13 12 (by decide)
    have a11 := d 12 (by omega) a12 11 (by decide)
    have hcases : j = 0 ∨ j = 1 ∨ j = 2 ∨ j = 3 ∨ j = 4 ∨ j = 5 ∨ j = 6 ∨ j = 7 ∨ j = 8 ∨ j = 9 ∨ j = 10 ∨ j = 11 ∨ j = 12 ∨ j = 13 ∨ j = 14 := by omega
    rcases hcases with rfl | rfl | rfl | rfl | rfl | rfl | rfl | rfl | rfl | rfl | rfl | rfl | rfl | rfl | rfl <;> assumption

theorem setAll19 (a0 : Act) (B A C d : Nat) (v : Int) : setAll (77 + ·) (V19 B A C d v) (Array.replicate 16 true) 16 a0 = ((((((((((((((((a0.put (some 77) (.pointer (some ⟨B, 0, none⟩))).put (some 78) (.int .i64 A)).put (some 79) (.int .i64 C)).put (some 80) (.int .i64 d)).put (some 81) (.int .u64 d)).put (some 82) (.string (bs (uintL d)))).put (some 83) (.pointer (some ⟨B, 1, none⟩))).put (some 84) (.int .i64 7)).put (some 85) (.int .u64 7)).put (some 86) (.string (bs (uintL 7)))).put (some 87) (.string (bs (uintL d ++ uintL 7)))).put (some 88) (.pointer (some ⟨B, 2, none⟩))).put (some 89) (.int .i64 v)).put (some 90) (.string (bs (uintL (foldN v))))).put (some 91) (.string (bs (uintL d ++ uintL 7 ++ uintL (foldN v))))).put (some 92) (.tuple #[.int .i64 (uintL d ++ uintL 7 ++ uintL (foldN v)).length, .nilIface])) := rfl

end Go.Proofs.Ytnjcelilljniaaa
