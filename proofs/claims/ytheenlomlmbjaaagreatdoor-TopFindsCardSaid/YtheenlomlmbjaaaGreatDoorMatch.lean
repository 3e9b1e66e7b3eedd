/-
  Maps whose elements are kept as they are: a look-up gives the value that was put, the store is one world.
-/
import Derived.Maps.RangeWalk
import Derived.Test.YtheenlomlmbjaaaGreatDoorTZigP
import Derived.Maps.OwnSet
import Derived.Sort.KeysCollected
import Derived.Shelf.SlIter.Nil
import Derived.Shelf.SortM.Plain
import Derived.Shelf.SortM.SortNone
import Derived.Ground.GgzProg
import Derived.Ground.SlgmProg
import Derived.Test.YtheenlomlmbjaaaGreatDoorProg
import Derived.Lib.Builder
import Derived.Lib.AppendStr
import Derived.Lib.UnsafeStr
import Derived.Maps.AppendAt
import Derived.Laws.Externs
import Derived.Shelf.RegionOpenPlain
import Derived.BigQuiet
import Derived.Deep.RegionHeld3
import Derived.Deep.DrawnRows
import Derived.Laws.EntriesVeiled
set_option linter.unusedSimpArgs false
set_option linter.unusedVariables false
namespace Go.Proofs.YtheenlomlmbjaaaGreatDoor
open Go.RowKit Go.Maps Go.ChangeMaps
open Go.WideElems (Fit rd rg pl rd_val)

def rawE (v : Value) : Option (DataW Value × List MemPlace) := some (.held v, [])
theorem rawE_eq (v : Value) : rawE v = some (.held v, []) := rfl
theorem rawE_inv {v x : Value} {ps : List MemPlace} (h : rawE v = some (.held x, ps)) : v = x := by cases h; rfl
theorem rawE_any {v : Value} {y : DataW Value × List MemPlace} (h : rawE v = some y) : y = (.held v, []) := by cases h; rfl

section
variable {P : Program} {k : TypeId} {w : World} {b n : Nat} {D : DataW Value} {t e : TypeId} {key : Value} {kl : Lit}

abbrev OMap (P : Program) (k : TypeId) (w : World) (b n : Nat) (D : DataW Value) : Prop := w.ownsMap P k rawE b n D

theorem look_raw (h : OMap P k w b n D) (K : Keyed P k) (ht : P.underlying t = some (.map k e)) {z : Value} (hz : (zeroValue e).run P w = .ok z w) (hkey : keyOf P k key = some kl) {v : Value} (hd : D.atKey kl (.held z) = .held v) :
    (Instr.lookup t (.map (some b)) key false).run P w = .ok v w := by
  obtain ⟨v', ps, hrun, hv⟩ := h.lookup K ht hz (rawE_eq z) hkey
  rw [hd] at hv
  rw [rawE_inv hv] at hrun
  exact hrun
theorem look_ok (h : OMap P k w b n D) (K : Keyed P k) (ht : P.underlying t = some (.map k e)) {z : Value} (hz : (zeroValue e).run P w = .ok z w) (hkey : keyOf P k key = some kl) {v : Value} (hd : ∀ zd, D.atKey kl zd = .held v) :
    (Instr.lookup t (.map (some b)) key true).run P w = .ok (.tuple #[v, .bool true]) w := by
  obtain ⟨es, clock, hb, F, _, rfl⟩ := h
  rcases Maps.fit_look true K ht hz hb F hkey with ⟨hrun, _, hat⟩ | ⟨e0, y, _, _, hrun, hRv, hat, _⟩
  · have h1 := hat .nil
    rw [hd .nil] at h1
    cases h1
  · have h1 := hat .nil
    rw [hd .nil] at h1
    rw [rawE_any hRv] at h1
    cases h1
    exact hrun
theorem look_no (h : OMap P k w b n D) (K : Keyed P k) (ht : P.underlying t = some (.map k e)) {z : Value} (hz : (zeroValue e).run P w = .ok z w) (hkey : keyOf P k key = some kl) (hd : D.atKey kl .nil = .nil) :
    (Instr.lookup t (.map (some b)) key true).run P w = .ok (.tuple #[z, .bool false]) w := by
  obtain ⟨es, clock, hb, F, _, rfl⟩ := h
  rcases Maps.fit_look true K ht hz hb F hkey with ⟨hrun, _, hat⟩ | ⟨e0, y, _, _, hrun, hRv, hat, _⟩
  · exact hrun
  · have h1 := hat .nil
    rw [hd, rawE_any hRv] at h1
    cases h1

def KeysOk (P : Program) (k : TypeId) (w : World) (b : Nat) : Prop := ∃ es clock, w.heap[b]? = some (.map es clock) ∧ ∀ x ∈ es.toList, ∃ l, keyOf P k x.key = some l
theorem OMap.keysOk (h : OMap P k w b n D) : KeysOk P k w b := by
  obtain ⟨es, clock, hb, F, _, _⟩ := h
  exact ⟨es, clock, hb, F.keys⟩
theorem KeysOk.kept {w' : World} {row : Option Nat} (h : KeysOk P k w b) (hg : w.grownBy w' row) (hne : some b ≠ row) : KeysOk P k w' b := by
  obtain ⟨es, clock, hb, hk⟩ := h
  exact ⟨es, clock, (hg.block b (Array.getElem?_eq_some_iff.1 hb).1 hne).trans hb, hk⟩
def mapGet (P : Program) (t : TypeId) (b : Nat) (key : Value) (w : World) : Value :=
  match (Instr.lookup t (.map (some b)) key false).run P w with
  | .ok v _ => v
  | _ => undef
def mapPut (P : Program) (t : TypeId) (b : Nat) (key v : Value) (w : World) : World :=
  match (Instr.mapUpdate t (.map (some b)) key v).run P w with
  | .ok _ w' => w'
  | _ => w

theorem mapGet_eq {v : Value} {w' : World} (h : (Instr.lookup t (.map (some b)) key false).run P w = .ok v w') : mapGet P t b key w = v := by
  unfold mapGet; rw [h]
theorem mapPut_eq {v : Value} {w' : World} (h : (Instr.mapUpdate t (.map (some b)) key v).run P w = .ok () w') : mapPut P t b key v w = w' := by
  unfold mapPut; rw [h]

theorem KeysOk.get (h : KeysOk P k w b) (K : Keyed P k) (ht : P.underlying t = some (.map k e)) {z : Value} (hz : (zeroValue e).run P w = .ok z w) (hkey : keyOf P k key = some kl) :
    (Instr.lookup t (.map (some b)) key false).run P w = .ok (mapGet P t b key w) w := by
  obtain ⟨es, clock, hb, hk⟩ := h
  have hex : ∃ v, (Instr.lookup t (.map (some b)) key false).run P w = .ok v w := by
    rcases K.find w hkey es.toList hk with ⟨h1, h2⟩ | ⟨j, e0, h1, h2, h3⟩
    · exact ⟨z, by simp [Instr.lookup, run_underlying ht, MapKept.run_getObj_map hb, K.check w _ hkey, h1, hz, Result.andThen]⟩
    · exact ⟨e0.val, by simp [Instr.lookup, run_underlying ht, MapKept.run_getObj_map hb, K.check w _ hkey, h1, Result.andThen]⟩
  obtain ⟨v, hv⟩ := hex
  rw [mapGet_eq hv]
  exact hv
theorem KeysOk.put (h : KeysOk P k w b) (K : Keyed P k) (ht : P.underlying t = some (.map k e)) (hkey : keyOf P k key = some kl) (v : Value) :
    (Instr.mapUpdate t (.map (some b)) key v).run P w = .ok () (mapPut P t b key v w) ∧ KeysOk P k (mapPut P t b key v w) b ∧ w.grownBy (mapPut P t b key v w) (some b) := by
  obtain ⟨es, clock, hb, hk⟩ := h
  have hex : ∃ es' clock', (Instr.mapUpdate t (.map (some b)) key v).run P w = .ok () (setBlock w b (.map es' clock')) ∧ ∀ x ∈ es'.toList, ∃ l, keyOf P k x.key = some l := by
    rcases K.find w hkey es.toList hk with ⟨h1, h2⟩ | ⟨j, e0, h1, h2, h3⟩
    · refine ⟨es.push ⟨key, v, clock⟩, clock + 1, ?_, ?_⟩
      · simp [Instr.mapUpdate, run_underlying ht, MapKept.run_getObj_map hb, K.check w false hkey, h1, MapKept.run_setObj_map _ hb, Result.andThen, setBlock]
      · intro x hx
        simp only [Array.toList_push, List.mem_append, List.mem_singleton] at hx
        rcases hx with hx | rfl
        · exact hk x hx
        · exact ⟨kl, hkey⟩
    · have hj : es[j]? = some e0 := by simpa using h2
      refine ⟨es.modify j (fun e' => { e' with key := key, val := v }), clock, ?_, ?_⟩
      · simp [Instr.mapUpdate, run_underlying ht, MapKept.run_getObj_map hb, K.check w false hkey, h1, hj, h3, K.stays w hkey, MapKept.run_setObj_map _ hb, Result.andThen, setBlock]
      · intro x hx
        rw [Array.toList_modify, modify_eq_set _ _ _ _ h2] at hx
        rcases List.mem_or_eq_of_mem_set hx with hx | rfl
        · exact hk x hx
        · exact ⟨kl, hkey⟩
  obtain ⟨es', clock', hrun, hk'⟩ := hex
  rw [mapPut_eq hrun]
  exact ⟨hrun, ⟨es', clock', heap_setBlock_same hb _, hk'⟩, ⟨rfl, rfl, rfl, by simp [setBlock], fun i _ hi => heap_setBlock_other hb _ (fun e => hi (by rw [e]))⟩⟩
theorem OMap.put (h : OMap P k w b n D) (K : Keyed P k) (ht : P.underlying t = some (.map k e)) (hn : n < maxLen) (hkey : keyOf P k key = some kl) (v : Value) :
    OMap P k (mapPut P t b key v w) b (n + 1) (D.put kl (.held v)) := by
  obtain ⟨w', hrun, h1, h2⟩ := h.update K ht hn hkey (rawE_eq v)
  rw [mapPut_eq hrun]
  exact h1
theorem OMap.below {w' : World} (h : OMap P k w b n D) (hb : Below w.heap.size w w') : OMap P k w' b n D := by
  have hlt := h.lt
  obtain ⟨es, clock, hb', F, hs, hD⟩ := h
  exact ⟨es, clock, (hb.block b hlt).trans hb', F, hs, hD⟩

end
end Go.Proofs.YtheenlomlmbjaaaGreatDoor

namespace Go.Proofs.YtheenlomlmbjaaaGreatDoor
open Go.RowKit Go.Maps

abbrev kS (nm : Bytes) : Lit := .string nm
abbrev Fs := Bytes → Option Bytes
def setFs (f : Fs) (nm d : Bytes) : Fs := fun x => if x = nm then some d else f x
def delFs (f : Fs) (nm : Bytes) : Fs := fun x => if x = nm then none else f x
def fsAt (o : Option Bytes) (z : DataW Value) : DataW Value :=
  match o with
  | some d => .held (.string (bs d))
  | none => z

def isS : Lit → Bool | .string _ => true | _ => false
theorem isS_inv {l : Lit} (h : isS l = true) : ∃ nm, l = kS nm := by
  cases l <;> simp [isS] at h
  exact ⟨_, rfl⟩
structure FsD (f : Fs) (N : Nat) (D : DataW Value) : Prop where
  tidy : Tidy D
  keys : ∀ es, D = .map es → es.any (fun p => !isS p.1) = false
  at_ : ∀ nm z, D.atKey (kS nm) z = fsAt (f nm) z
  size : Maps.size D ≤ N
theorem FsD.start : FsD (fun _ => none) 0 (.map []) := ⟨tidy_empty, fun es h => by cases h; rfl, fun _ _ => rfl, Nat.le_refl _⟩
theorem FsD.has {f : Fs} {N : Nat} {D : DataW Value} (h : FsD f N D) (nm : Bytes) : Maps.has D (kS nm) = (f nm).isSome := by
  cases hf : f nm with
  | some d => exact Maps.has_true_of_atKey (y := .held (.string (bs d))) fun z => by rw [h.at_, hf]; rfl
  | none => exact Maps.has_false_of_atKey fun z => by rw [h.at_, hf]; rfl
theorem FsD.put {f : Fs} {N : Nat} {D : DataW Value} (h : FsD f N D) (nm d : Bytes) : FsD (setFs f nm d) (if (f nm).isSome then N else N + 1) (D.put (kS nm) (.held (.string (bs d)))) := by
  have hk : WideAt.IsKeyLit (kS nm) := trivial
  refine ⟨h.tidy.put hk _, fun es he => ?_, fun x z => ?_, ?_⟩
  · obtain ⟨es0, rfl⟩ := h.tidy.isMap
    have h0 := h.keys es0 rfl
    cases he
    rw [Maps.any_insert]
    simp only [isS, Bool.not_true, Bool.false_or]
    rw [List.any_eq_false] at h0 ⊢
    exact fun p hp => h0 p (List.mem_filter.1 hp).1
  · unfold setFs
    by_cases e : x = nm
    · subst e; rw [if_pos rfl, Maps.atKey_put_same h.tidy.isMap hk]; rfl
    · rw [if_neg e, Maps.atKey_put_other (fun e' => e (by injection e'))]; exact h.at_ x z
  · have h1 := Maps.size_put (k := kS nm) h.tidy (.held (.string (bs d)))
    rw [h.has] at h1
    rw [h1]
    have := h.size
    split <;> omega
theorem FsD.del {f : Fs} {N : Nat} {D : DataW Value} (h : FsD f N D) (nm : Bytes) : FsD (delFs f nm) N (D.del (kS nm)) := by
  refine ⟨h.tidy.del _, fun es he => ?_, fun x z => ?_, ?_⟩
  · obtain ⟨es0, rfl⟩ := h.tidy.isMap
    have h0 := h.keys es0 rfl
    cases he
    rw [List.any_eq_false] at h0 ⊢
    exact fun p hp => h0 p (List.mem_filter.1 hp).1
  · unfold delFs
    by_cases e : x = nm
    · subst e; rw [if_pos rfl, Maps.atKey_del_same]; rfl
    · rw [if_neg e, Maps.atKey_del_other (fun e' => e (by injection e'))]; exact h.at_ x z
  · have h1 := Maps.size_del (k := kS nm) h.tidy
    have := h.size
    omega

theorem FsD.names {f : Fs} {N : Nat} {D : DataW Value} (h : FsD f N D) : (strKeys D).length ≤ N ∧ (strKeys D).Pairwise (· ≠ ·) ∧ ∀ nm, nm ∈ strKeys D → ∃ d, f nm = some d := by
  obtain ⟨es, rfl, hp⟩ := h.tidy
  have h0 := h.keys es rfl
  rw [List.any_eq_false] at h0
  have hk : ∀ p ∈ es, ∃ nm, p.1 = kS nm := fun p hpm => isS_inv (by simpa using h0 p hpm)
  refine ⟨by have := h.size; simpa [strKeys, Maps.size] using this, ?_, ?_⟩
  · unfold strKeys
    rw [List.pairwise_map]
    refine List.Pairwise.imp_of_mem ?_ hp
    intro p q hp1 hq1 hne e
    obtain ⟨a, ha⟩ := hk p hp1
    obtain ⟨b, hb⟩ := hk q hq1
    rw [ha, hb] at hne e
    exact hne (by rw [show a = b from e])
  · intro nm hm
    unfold strKeys at hm
    obtain ⟨p, hp1, hp2⟩ := List.mem_map.1 hm
    obtain ⟨a, ha⟩ := hk p hp1
    rw [ha] at hp2
    have : a = nm := hp2
    subst this
    have hh : Maps.has (.map es) (kS a) = true := by
      rw [Maps.has_eq, List.any_eq_true]
      exact ⟨p, hp1, by rw [ha]; simp [Lit.sameKey]⟩
    rw [h.has] at hh
    exact Option.isSome_iff_exists.1 hh

def nch (n : Nat) : Nat := (n + 63) / 64
def sumN (l : List Nat) : Nat := l.foldr (· + ·) 0
theorem sumN_append (a b : List Nat) : sumN (a ++ b) = sumN a + sumN b := by
  induction a with
  | nil => simp [sumN]
  | cons x a ih => simp only [List.cons_append, sumN, List.foldr_cons] at *; omega
abbrev walNm : Bytes := [119, 97, 108]
def limF (nm : Bytes) : Nat := if nm = walNm then 2880 else 1664
theorem sum_lim {f : Bytes → Nat} {l : List Bytes} (hf : ∀ nm ∈ l, f nm ≤ limF nm) (hp : l.Pairwise (· ≠ ·)) : sumN (l.map fun nm => nch (f nm)) ≤ 26 * l.length + (if walNm ∈ l then 19 else 0) := by
  induction l with
  | nil => simp [sumN]
  | cons x l ih =>
    have hp' := List.pairwise_cons.1 hp
    have h1 := ih (fun nm hn => hf nm (List.mem_cons_of_mem _ hn)) hp'.2
    have h2 := hf x (List.mem_cons_self ..)
    simp only [List.map_cons, sumN, List.foldr_cons, List.length_cons] at *
    unfold limF at h2
    by_cases e : x = walNm
    · subst e
      have h3 : walNm ∉ l := fun hm => hp'.1 _ hm rfl
      rw [if_neg h3] at h1
      rw [if_pos rfl] at h2
      rw [if_pos (List.mem_cons_self ..)]
      have : nch (f walNm) ≤ 45 := by unfold nch; omega
      omega
    · rw [if_neg e] at h2
      have : nch (f x) ≤ 26 := by unfold nch; omega
      by_cases h3 : walNm ∈ l
      · rw [if_pos h3] at h1; rw [if_pos (List.mem_cons_of_mem _ h3)]; omega
      · rw [if_neg h3] at h1
        rw [if_neg (fun hm => by rcases List.mem_cons.1 hm with h | h; exact e h.symm; exact h3 h)]
        omega

end Go.Proofs.YtheenlomlmbjaaaGreatDoor

namespace Go.Proofs
open Go.Shelf
end Go.Proofs

namespace Go.Proofs.YtheenlomlmbjaaaGreatDoor
open Go.RowKit

set_option maxRecDepth 100000 in
theorem hasPrefixL_any (s p : Bytes) (w : World) (hs : s.length ≤ 1000000000000) (hp : p.length ≤ 1000000000000) :
    Calls Tryz.prog 230 #[.string (bs s), .string (bs p)] w fun e w' => e = .returned (.bool (isPre p s)) ∧ w = w' := by
  by_cases h : p.length ≤ s.length
  · go_enter Tryz.func230, Tryz.ntmps230
    go_wp2_with fail
    go_ret
    exact ⟨rfl, rfl⟩
  · go_enter Tryz.func230, Tryz.ntmps230
    go_wp2_with fail
    go_ret
    exact ⟨by rw [isPre_no h]; rfl, rfl⟩
theorem hasPrefix_any (s p : Bytes) (w : World) (hs : s.length ≤ 1000000000000) (hp : p.length ≤ 1000000000000) :
    Calls Tryz.prog 163 #[.string (bs s), .string (bs p)] w fun e w' => e = .returned (.bool (isPre p s)) ∧ w = w' := by
  go_enter Tryz.func163, Tryz.ntmps163
  go_wp2_with fail
  refine (hasPrefixL_any s p _ hs hp).mono ?_
  rintro e w' ⟨rfl, rfl⟩
  go_wp2_with fail
  go_ret
  exact ⟨rfl, rfl⟩
end Go.Proofs.YtheenlomlmbjaaaGreatDoor

namespace Go.Proofs.YtheenlomlmbjaaaGreatDoor.L4
open Go.RowKit

def cellsB (l : Bytes) : List Value := l.map fun b => Value.int .u8 b.toNat
theorem cellsB_length (l : Bytes) : (cellsB l).length = l.length := List.length_map ..
theorem cellsB_str (l : Bytes) : Lib.strCells (bs l) = cellsB l := by simp [Lib.strCells, cellsB, bs]

def Hb (b : Nat) (Ks : Nat → Option Obj) (l : Bytes) (w : World) : Prop :=
  ∃ p v, (p = .pointer none ∨ p = .pointer (some ⟨b, 0, none⟩)) ∧ w.heap[b]? = some (.cells #[p, v] 124 (0, 0)) ∧ w.ownsRow b 5 1 v l.length (cellsB l) ∧
    ∀ k o, Ks k = some o → k ≠ b ∧ v.ownBlock ≠ some k ∧ w.heap[k]? = some o

theorem lt_of_heap {w : World} {k : Nat} {o : Obj} (h : w.heap[k]? = some o) : k < w.heap.size := by
  rcases Nat.lt_or_ge k w.heap.size with h' | h'
  · exact h'
  · simp [Array.getElem?_eq_none h'] at h
theorem Hb.lt {b : Nat} {Ks : Nat → Option Obj} {l : Bytes} {w : World} (h : Hb b Ks l w) : b < w.heap.size := by
  obtain ⟨_, _, _, h, _⟩ := h
  exact lt_of_heap h
theorem Hb.kept {b : Nat} {Ks : Nat → Option Obj} {l : Bytes} {w : World} (h : Hb b Ks l w) {k : Nat} {o : Obj} (hk : Ks k = some o) : w.heap[k]? = some o := by
  obtain ⟨_, _, _, _, _, h⟩ := h
  exact (h k o hk).2.2
theorem Hb.fresh (w : World) : Hb w.heap.size (fun _ => none) [] (w.alloc (.cells #[.pointer none, .slice none 0 0] 124)) :=
  ⟨_, _, .inl rfl, heap_alloc_new w _, World.ownsRow_nil _ _ _ _, fun k o h => by cases h⟩
theorem Hb.alloc {b : Nat} {Ks : Nat → Option Obj} {l : Bytes} {w : World} (h : Hb b Ks l w) (o : Obj) :
    Hb b (fun k => if k = w.heap.size then some o else Ks k) l (w.alloc o) := by
  have hlt := h.lt
  obtain ⟨p, v, hp, hb, hown, hk⟩ := h
  refine ⟨p, v, hp, (Lib.alloc_old w o b hlt).trans hb, hown.alloc _, fun k o' h => ?_⟩
  change (if k = w.heap.size then some o else Ks k) = some o' at h
  by_cases e : k = w.heap.size
  · rw [if_pos e] at h
    obtain rfl : o = o' := by simpa using h
    refine ⟨by omega, fun h' => ?_, by rw [e]; exact heap_alloc_new w _⟩
    have := (hown.lt k h').2
    omega
  · rw [if_neg e] at h
    obtain ⟨k1, k2, k3⟩ := hk k o' h
    exact ⟨k1, k2, (Lib.alloc_old w o k (lt_of_heap k3)).trans k3⟩
theorem Hb.drew {b : Nat} {Ks : Nat → Option Obj} {l : Bytes} {w : World} (h : Hb b Ks l w) : Hb b Ks l w.drew := h

theorem Hb.put {b : Nat} {Ks : Nat → Option Obj} {l l' : Bytes} {w w1 : World} {p v v' : Value} (hp : p = .pointer none ∨ p = .pointer (some ⟨b, 0, none⟩))
    (hb : w.heap[b]? = some (.cells #[p, v] 124 (0, 0))) (hown : w.ownsRow b 5 1 v l.length (cellsB l))
    (hk : ∀ k o, Ks k = some o → k ≠ b ∧ v.ownBlock ≠ some k ∧ w.heap[k]? = some o)
    (hown' : w1.ownsRow b 5 1 v' l'.length (cellsB l')) (hg : w.grownBy w1 v.ownBlock) (hat : v'.ownBlock = v.ownBlock ∨ ∃ g, v'.ownBlock = some g ∧ w.heap.size ≤ g) :
    Hb b Ks l' (w1.setCell ⟨b, 1, none⟩ v') := by
  have hlt := lt_of_heap hb
  have hne0 := Lib.ownBlock_ne hown hb (by decide)
  have hb1 : w1.heap[b]? = some (.cells #[p, v] 124 (0, 0)) := (hg.block b hlt (fun e => hne0 e.symm)).trans hb
  obtain ⟨_, vv, h1, h2, h3⟩ := Lib.BuilderAt.put (T := 124) (e := 5) (Nat.le_refl b) hb1 (bs' := cellsB l') (by rw [cellsB_length]; exact hown') (by decide)
  have hvv : vv = v' := by
    have : (w1.setCell ⟨b, 1, none⟩ v').heap[b]? = some (.cells #[p, v'] 124 (0, 0)) := by simp [World.setCell, Array.getElem?_modify, hb1]
    rw [this] at h1
    simpa using h1.symm
  subst hvv
  rw [cellsB_length] at h2
  refine ⟨p, vv, hp, h1, h2, fun k o h => ?_⟩
  obtain ⟨k1, k2, k3⟩ := hk k o h
  have klt := lt_of_heap k3
  refine ⟨k1, ?_, ?_⟩
  · rcases hat with e | ⟨g, e, hge⟩
    · rw [e]; exact k2
    · rw [e]; intro e'; cases e'; omega
  · rw [Below.heap_setCell _ _ _ _ (fun e => k1 (by simpa using e)), hg.block k klt (fun e => k2 e.symm)]
    exact k3

theorem sizeBuilder : (Tryz.prog.info? 124).map (·.size) = some 2 := by kernel_rfl
theorem infoByte : (Tryz.prog.info? 5).map (fun i => (i.zero, i.size, i.bytes)) = some (some (.int .u8 0), 1, 1) := by kernel_rfl
theorem liesBuilder : liesAt Tryz.prog Tryz.prog.depth 124 (2 / Tryz.prog.cellsOf 124) 0 124 1 = true := by kernel_rfl
theorem cellsByte : Tryz.prog.cellsOf 5 = 1 := by kernel_rfl

set_option maxHeartbeats 1000000 in
set_option maxRecDepth 100000 in
theorem copyCheck_used (b : Nat) (w : World) (h0 : w.cell? ⟨b, 0, none⟩ = some (.pointer (some ⟨b, 0, none⟩))) :
    Calls Tryz.prog 85 #[.pointer (some ⟨b, 0, none⟩)] w fun e w' => e = .returned (.tuple #[]) ∧ w = w' := by
  obtain ⟨j, hj, _⟩ := Option.map_eq_some_iff.1 sizeBuilder
  have hne := Lib.run_neq_ptr_same (P := Tryz.prog) w ⟨b, 0, none⟩ Tryz.underlying122 hj
  clear hj
  go_enter Tryz.func85, Tryz.ntmps85
  go_wp2_with fail
  go_end0
  exact ⟨rfl, rfl⟩

set_option maxHeartbeats 1000000 in
set_option maxRecDepth 100000 in
theorem copyCheck_fresh (b : Nat) (w : World) (h0 : w.cell? ⟨b, 0, none⟩ = some (.pointer none)) (hsh : w.shape? b = some (124, 2)) (hfz : w.frozen? ⟨b, 0, none⟩ = false) :
    Calls Tryz.prog 85 #[.pointer (some ⟨b, 0, none⟩)] w fun e w' => e = .returned (.tuple #[]) ∧ w' = w.setCell ⟨b, 0, none⟩ (.pointer (some ⟨b, 0, none⟩)) := by
  obtain ⟨j, hj, hjs⟩ := Option.map_eq_some_iff.1 sizeBuilder
  have h1 := Lib.run_to_unsafe (P := Tryz.prog) w ⟨b, 0, none⟩ Tryz.underlying122 Tryz.underlying293 hj (by rw [hjs]; decide) hsh (Nat.zero_lt_succ 1)
  have h2 := Lib.run_from_unsafe (P := Tryz.prog) w ⟨b, 0, none⟩ Tryz.underlying293 Tryz.underlying122 hj hsh liesBuilder
  clear hj hjs
  go_enter Tryz.func85, Tryz.ntmps85
  go_wp2_with fail
  rw [run_callFunc_extern Tryz.func159 (by kernel_rfl) (by kernel_rfl) (by kernel_rfl) (e := Extern.AbiNoEscape.same) (by kernel_rfl)]
  rw [Lib.run_noEscape]
  simp only [Result.andThen]
  rw [Oper.upon_value]
  go_wp2_with fail
  go_end0
  exact ⟨rfl, rfl⟩

theorem copyCheck_any {b : Nat} {Ks : Nat → Option Obj} {l : Bytes} {w : World} (h : Hb b Ks l w) :
    Calls Tryz.prog 85 #[.pointer (some ⟨b, 0, none⟩)] w fun e w' => e = .returned (.tuple #[]) ∧ Hb b Ks l w' ∧ Below b w w' ∧ w'.heap.size = w.heap.size ∧
      w'.cell? ⟨b, 0, none⟩ = some (.pointer (some ⟨b, 0, none⟩)) := by
  have h' := h
  obtain ⟨p, v, hp, hb, hown, hk⟩ := h
  have hcell : w.cell? ⟨b, 0, none⟩ = some p := by rw [Lib.cell_of_heap hb]; rfl
  have hne := Lib.ownBlock_ne hown hb (by decide)
  rcases hp with rfl | rfl
  · refine (copyCheck_fresh b w hcell (by simp [World.shape?, hb]) (Lib.frozen_of_heap hb 0)).mono ?_
    rintro e w' ⟨rfl, rfl⟩
    have hb1 : (w.setCell ⟨b, 0, none⟩ (.pointer (some ⟨b, 0, none⟩))).heap[b]? = some (.cells #[.pointer (some ⟨b, 0, none⟩), v] 124 (0, 0)) := by
      simp [World.setCell, Array.getElem?_modify, hb]
    refine ⟨rfl, ⟨_, v, .inr rfl, hb1, ?_, fun k o h => ?_⟩, (Below.refl b w).setCell (p := ⟨b, 0, none⟩) (Nat.le_refl _) _, by simp [World.setCell], by rw [Lib.cell_of_heap hb1]; rfl⟩
    · exact hown.kept (row := some b) ⟨rfl, rfl, rfl, by simp [World.setCell], fun k _ hk => Below.heap_setCell _ _ _ _ (fun e => hk (by simp [e]))⟩ (Or.inr hne)
    · obtain ⟨k1, k2, k3⟩ := hk k o h
      exact ⟨k1, k2, by rw [Below.heap_setCell _ _ _ _ (fun e => k1 (by simpa using e))]; exact k3⟩
  · refine (copyCheck_used b w hcell).mono ?_
    rintro e w' ⟨rfl, rfl⟩
    exact ⟨rfl, h', Below.refl _ _, rfl, hcell⟩

theorem wpList_byte1 (w : World) {ops : Array Oper} {rest : List Oper} {o : Oper} {a : Act} {Q : Exit → Act → World → Prop} (hg : o.guard = none) (s x : Operand)
    (ho : o.op = .call { callee := .builtin .append, args := #[s, x], argTypes := #[22, 22] })
    (base : Nat) (v : Value) (l : Bytes) (c : UInt8) (hs : a.eval s = v) (hx : a.eval x = .slice (some ⟨w.heap.size, 0, none⟩) 1 1)
    (hown : w.ownsRow base 5 1 v l.length (cellsB l)) (hbase : base ≤ w.heap.size) (hlen : l.length ≤ 1000000000000)
    (h : ∀ v' w', w'.ownsRow base 5 1 v' (l ++ [c]).length (cellsB (l ++ [c])) → w.grownBy w' v.ownBlock → (v'.ownBlock = v.ownBlock ∨ ∃ g, v'.ownBlock = some g ∧ w.heap.size ≤ g) → wpList Tryz.prog ops Q rest (a.put o.dst v') w') :
    wpList Tryz.prog ops Q (o :: rest) a (w.alloc (.cells #[.int .u8 c.toNat] 5)) := by
  obtain ⟨i0, hi, hz0, hz1, hz2⟩ := info_parts infoByte
  refine wpList_append_own_at _ hg s x 22 ho base 5 i0 (.int .u8 0) 1 1 Tryz.underlying22 hi hz0 hz1 hz2 rfl (by decide) v l.length (cellsB l) hs (hown.alloc _)
    ⟨w.heap.size, 0, none⟩ 1 1 [.int .u8 c.toNat] hx rfl (cell_one_new _ _ _) ?_ (by simp only [maxLen]; omega) (by omega) (by simp; omega) ?_
  · intro u hu
    simp at hu; subst hu; rfl
  · intro v' w' h1 h2 _ hat
    have hgr : w.grownBy w' v.ownBlock := ⟨h2.os, h2.tape, h2.output, Nat.le_trans (by simp) h2.size, fun k hk hne => (h2.block k (by simp; omega) hne).trans (Below.heap_alloc _ _ _ hk)⟩
    refine h v' w' ?_ hgr ?_
    · simpa [cellsB] using h1
    · rcases hat with e | e
      · exact .inl e
      · exact .inr ⟨_, e, by simp⟩

set_option maxRecDepth 100000 in
theorem wpList_bytes (w : World) {ops : Array Oper} {rest : List Oper} {o : Oper} {a : Act} {Q : Exit → Act → World → Prop} (hg : o.guard = none) (s x : Operand)
    (ho : o.op = .call { callee := .builtin .append, args := #[s, x], argTypes := #[22, 9] })
    (base : Nat) (v : Value) (l m : Bytes) (hs : a.eval s = v) (hx : a.eval x = .string (bs m))
    (hown : w.ownsRow base 5 1 v l.length (cellsB l)) (hbase : base ≤ w.heap.size) (hlen : l.length + m.length ≤ 1000000000000)
    (h : ∀ v' w', w'.ownsRow base 5 1 v' (l ++ m).length (cellsB (l ++ m)) → w.grownBy w' v.ownBlock → (v'.ownBlock = v.ownBlock ∨ ∃ g, v'.ownBlock = some g ∧ w.heap.size ≤ g) → wpList Tryz.prog ops Q rest (a.put o.dst v') w') :
    wpList Tryz.prog ops Q (o :: rest) a w := by
  obtain ⟨i0, hi, hz0, hz1, hz2⟩ := info_parts infoByte
  refine wpList_plain hg fun K hK => ?_
  obtain ⟨v', w', hr, h2, h3, h4⟩ := Lib.run_append_own_string (P := Tryz.prog) w base 22 9 o.type 5 i0 Tryz.underlying22 Tryz.underlying9 hi hz0 hz1 hz2 v l.length (cellsB l) hown (bs m)
    (by rw [bs_size]; unfold maxLen; omega) (by rw [bs_size]; omega) hbase
  have hat : v'.ownBlock = v.ownBlock ∨ ∃ g, v'.ownBlock = some g ∧ w.heap.size ≤ g := by
    rcases hown.2 with ⟨hv, hz⟩ | ⟨g, cap, cur, hv, _, hg', hnc, hcm, hcs, htake⟩
    · rcases h2.2 with ⟨hv', _⟩ | ⟨g', cap', cur', hv', hb', _⟩
      · left; rw [hv, hv']
      · by_cases hm : m.length = 0
        · have := h4.2 ⟨hv, hm⟩
          rw [hv'] at this; cases this
        · right
          subst hv
          have hr2 := run_append_nil_string (P := Tryz.prog) w 22 9 o.type 5 i0 (.int .u8 0) Tryz.underlying22 Tryz.underlying9 hi hz0 (bs m) (by rw [bs_size]; omega) (by rw [bs_size]; omega) (by rw [bs_size, hz2]; omega)
          rw [hr2] at hr
          injection hr with e1 e2
          subst e1
          exact ⟨_, rfl, Nat.le_refl _⟩
    · subst hv
      by_cases hroom : l.length + (bs m).size ≤ cap
      · left
        have hr2 := Lib.run_append_room_string (P := Tryz.prog) w 22 9 o.type 5 i0 Tryz.underlying22 Tryz.underlying9 hi hz1 g l.length cap cur hg' (bs m) hroom (by omega)
        rw [hr2] at hr
        injection hr with e1 e2
        subst e1
        rfl
      · right
        have hr2 := Lib.run_append_grow_string (P := Tryz.prog) w 22 9 o.type 5 i0 (.int .u8 0) Tryz.underlying22 Tryz.underlying9 hi hz0 ⟨g, 0, none⟩ l.length cap (cellsB l) (by rw [hz1, cellsB_length]; omega) (hown.cells (g := g) rfl) (bs m) (by omega) (by rw [bs_size]; omega)
          (by rw [hz2]; exact growslice_fits (by omega) (by rw [bs_size]; omega))
        rw [hr2] at hr
        injection hr with e1 e2
        subst e1
        exact ⟨_, rfl, Nat.le_refl _⟩
  unfold Oper.wp execOp
  simp only [ho, resolve, invoke, builtin, Sem.run_bind, Sem.run_pure, Result.andThen_ok, List.map_toArray, List.map_cons, List.map_nil, hs, hx, hr]
  refine hK _ _ (h v' w' ?_ h3 hat)
  rw [cellsB_str, bs_size] at h2
  simpa [cellsB] using h2

theorem row_one {w : World} {base n : Nat} {v : Value} {xs : List Value} (h : w.ownsRow base 5 1 v n xs) : ∃ a c, v = .slice a n c := by
  rcases h.2 with ⟨hv, hz⟩ | ⟨g, cap, cur, hv, _⟩
  · exact ⟨none, 0, by rw [hv, hz]⟩
  · exact ⟨_, _, hv⟩

set_option maxHeartbeats 2000000 in
set_option maxRecDepth 100000 in
theorem writeByte_any {b : Nat} {Ks : Nat → Option Obj} {l : Bytes} {w : World} (c : UInt8) (h : Hb b Ks l w) (hlen : l.length ≤ 1000000000000) :
    Calls Tryz.prog 210 #[.pointer (some ⟨b, 0, none⟩), .int .u8 c.toNat] w fun e w' => e = .returned .nilIface ∧ Hb b Ks (l ++ [c]) w' ∧ Below b w w' := by
  have HC := Lib.hid (copyCheck_any h)
  clear h
  go_enter Tryz.func210, Tryz.ntmps210
  go_wp2_with fail
  refine HC.out.mono ?_
  rintro e w1 ⟨rfl, hh, hbl, -, c0⟩
  clear HC
  obtain ⟨p, v, hp, hb, hown, hk⟩ := hh
  obtain ⟨va, vc, rfl⟩ := row_one hown
  have c1 : w1.cell? ⟨b, 1, none⟩ = some (.slice va l.length vc) := by rw [Lib.cell_of_heap hb]; rfl
  have hlt := lt_of_heap hb
  have HB := Lib.hid hb
  have HO := Lib.hid hown
  have HK := Lib.hid hk
  have HP := Lib.hid hp
  have HL := Lib.hid hbl
  clear hb hown hk hp hbl
  go_wp2_with (at_builtin; refine wpList_byte1 _ rfl (.tmp 11) (.tmp 13) rfl b _ l c (by rfl) (by rfl) HO.out (by omega) (by omega) ?_; intro v' w2 hown' hgrow hat; obtain ⟨va', vc', rfl⟩ := row_one hown'; have HO' := Lib.hid hown'; have HG := Lib.hid hgrow; have HA := Lib.hid hat; clear hown' hgrow hat; have hb2 := (HG.out.block b hlt (fun e => Lib.ownBlock_ne HO.out HB.out (by decide) e.symm)).trans HB.out; have f1 := Lib.frozen_of_heap hb2 1; have d1 : w2.cell? ⟨b, 1, none⟩ = some (.slice va l.length vc) := (by rw [Lib.cell_of_heap hb2]; rfl); clear hb2)
  go_ret
  have hs1 := HG.out.size
  exact ⟨rfl, Hb.put HP.out HB.out HO.out HK.out (by have h' := HO'.out; rw [List.length_append] at h' ⊢; exact h') HG.out (by have h' := HA.out; rw [List.length_append] at h'; exact h'), ((HL.out.trans ((Below.refl b _).grown HG.out (by omega) (fun k hk => (HO.out.lt k hk).1))).setCell (p := ⟨b, 1, none⟩) (Nat.le_refl _) _)⟩

set_option maxHeartbeats 2000000 in
set_option maxRecDepth 100000 in
theorem writeString_any {b : Nat} {Ks : Nat → Option Obj} {l : Bytes} {w : World} (m : Bytes) (h : Hb b Ks l w) (hlen : l.length + m.length ≤ 1000000000000) :
    Calls Tryz.prog 39 #[.pointer (some ⟨b, 0, none⟩), .string (bs m)] w fun e w' => e = .returned (.tuple #[.int .i64 m.length, .nilIface]) ∧ Hb b Ks (l ++ m) w' ∧ Below b w w' := by
  have HC := Lib.hid (copyCheck_any h)
  clear h
  go_enter Tryz.func39, Tryz.ntmps39
  go_wp2_with fail
  refine HC.out.mono ?_
  rintro e w1 ⟨rfl, hh, hbl, -, c0⟩
  clear HC
  obtain ⟨p, v, hp, hb, hown, hk⟩ := hh
  obtain ⟨va, vc, rfl⟩ := row_one hown
  have c1 : w1.cell? ⟨b, 1, none⟩ = some (.slice va l.length vc) := by rw [Lib.cell_of_heap hb]; rfl
  have hlt := lt_of_heap hb
  have HB := Lib.hid hb
  have HO := Lib.hid hown
  have HK := Lib.hid hk
  have HP := Lib.hid hp
  have HL := Lib.hid hbl
  clear hb hown hk hp hbl
  go_wp2_with (at_builtin; refine wpList_bytes _ rfl (.tmp 12) (.tmp 13) rfl b _ l m (by rfl) (by rfl) HO.out (by omega) (by omega) ?_; intro v' w2 hown' hgrow hat; obtain ⟨va', vc', rfl⟩ := row_one hown'; have HO' := Lib.hid hown'; have HG := Lib.hid hgrow; have HA := Lib.hid hat; clear hown' hgrow hat; have hb2 := (HG.out.block b hlt (fun e => Lib.ownBlock_ne HO.out HB.out (by decide) e.symm)).trans HB.out; have f1 := Lib.frozen_of_heap hb2 1; have d1 : w2.cell? ⟨b, 1, none⟩ = some (.slice va l.length vc) := (by rw [Lib.cell_of_heap hb2]; rfl); clear hb2)
  go_ret2
  have hs1 := HG.out.size
  exact ⟨rfl, Hb.put HP.out HB.out HO.out HK.out (by have h' := HO'.out; rw [List.length_append] at h' ⊢; exact h') HG.out (by have h' := HA.out; rw [List.length_append] at h'; exact h'), ((HL.out.trans ((Below.refl b _).grown HG.out (by omega) (fun k hk => (HO.out.lt k hk).1))).setCell (p := ⟨b, 1, none⟩) (Nat.le_refl _) _)⟩

set_option maxHeartbeats 1000000 in
set_option maxRecDepth 100000 in
theorem builderString_any {b : Nat} {Ks : Nat → Option Obj} {l : Bytes} {w : World} (h : Hb b Ks l w) (h0 : l ≠ []) :
    Calls Tryz.prog 41 #[.pointer (some ⟨b, 0, none⟩)] w fun e w' => e = .returned (.string (bs l)) ∧ Below b w w' := by
  obtain ⟨p, v, hp, hb, hown, hk⟩ := h
  clear hk hp
  have hl0 : l.length ≠ 0 := by simpa using h0
  obtain ⟨g, cap, cur, rfl, hbg, hg, hnc, hcm, hcs, htake⟩ : ∃ g cap cur, v = .slice (some ⟨g, 0, none⟩) l.length cap ∧ b ≤ g ∧ w.heap[g]? = some (.cells cur 5 (0, 0)) ∧ l.length ≤ cap ∧ cap ≤ maxLen ∧ cur.size = cap * 1 ∧ cur.toList.take (l.length * 1) = cellsB l := by
    rcases hown.2 with ⟨_, hz⟩ | ⟨g, cap, cur, hv, r⟩
    · exact absurd hz hl0
    · exact ⟨g, cap, cur, hv, r⟩
  have c1 : w.drew.cell? ⟨b, 1, none⟩ = some (.slice (some ⟨g, 0, none⟩) l.length cap) := by
    have : w.drew.heap[b]? = some (.cells #[p, .slice (some ⟨g, 0, none⟩) l.length cap] 124 (0, 0)) := hb
    rw [Lib.cell_of_heap this]; rfl
  have hSD : (Builtin.unsafeSliceData_ #[22] 189 #[.slice (some ⟨g, 0, none⟩) l.length cap]).run Tryz.prog w.drew = .ok (.pointer (some ⟨g, 0, none⟩)) w.drew :=
    Lib.run_unsafeSliceData_row _ _ _ _ _ _ (by omega)
  have hUS : (Builtin.unsafeString_ #[189, 3] 9 #[.pointer (some ⟨g, 0, none⟩), .int .i64 l.length]).run Tryz.prog w.drew = .ok (.string ⟨l.toArray⟩) (w.drew.freeze ⟨g, 0, none⟩ l.length) := by
    refine Lib.run_unsafeString_row w.drew 189 3 9 5 Tryz.underlying189 cellsByte g cur.size (by have hg' : w.drew.heap[g]? = some (.cells cur 5 (0, 0)) := hg; simp [World.shape?, hg']) l h0 (by omega) (by unfold maxLen at hcm; omega) ?_
    intro j x hx
    exact hown.cells (g := g) rfl j (.int .u8 x.toNat) (by simp [cellsB, hx])
  have mixed : Tryz.prog.follows .mixedOrders = true := by kernel_rfl
  have HF : Hid (Below b w (w.drew.freeze ⟨g, 0, none⟩ l.length)) := Lib.hid (Lib.below_freeze (Below.drew (Below.refl b w)) (p := ⟨g, 0, none⟩) hbg _)
  clear hb hown hg htake hcs hnc hcm hbg h0 hl0
  go_enter Tryz.func41, Tryz.ntmps41
  go_wp2_with fail
  go_region_o
  all_goals (go_wp2; go_ret; exact ⟨rfl, HF.out⟩)

end Go.Proofs.YtheenlomlmbjaaaGreatDoor.L4

namespace Go.Proofs.YtheenlomlmbjaaaGreatDoor.L4
open Go.RowKit

abbrev Lab := Bytes × Bytes

def Labels (w : World) (v : Value) (ls : List Lab) : Prop :=
  ∃ a cap, v = .slice a ls.length cap ∧ ls.length ≤ cap ∧ cap ≤ 9223372036854775807 ∧
    (ls ≠ [] → ∃ b off, a = some ⟨b, off, none⟩ ∧ b < w.heap.size ∧ ∀ i, i < ls.length →
      w.cell? ⟨b, off + i * 2, none⟩ = some (.string (bs (ls.getD i ([], [])).1)) ∧ w.cell? ⟨b, off + i * 2 + 1, none⟩ = some (.string (bs (ls.getD i ([], [])).2)))

theorem Labels.below {w w' : World} {v : Value} {ls : List Lab} (h : Labels w v ls) (hb : Below w.heap.size w w') : Labels w' v ls := by
  obtain ⟨a, cap, hv, h1, h2, h3⟩ := h
  refine ⟨a, cap, hv, h1, h2, fun hx => ?_⟩
  obtain ⟨b, off, ha, hlt, hc⟩ := h3 hx
  refine ⟨b, off, ha, Nat.lt_of_lt_of_le hlt hb.size, fun i hi => ?_⟩
  exact ⟨(hb.cell (p := ⟨b, off + i * 2, none⟩) hlt).trans (hc i hi).1, (hb.cell (p := ⟨b, off + i * 2 + 1, none⟩) hlt).trans (hc i hi).2⟩

theorem Labels.at_ {w : World} {a : Option Addr} {n cap : Nat} {ls : List Lab} (h : Labels w (.slice a n cap) ls) {i : Nat} (hi : i < ls.length) :
    ∃ b off, a = some ⟨b, off, none⟩ ∧ b < w.heap.size ∧ w.cell? ⟨b, off + i * 2, none⟩ = some (.string (bs (ls.getD i ([], [])).1)) ∧ w.cell? ⟨b, off + i * 2 + 1, none⟩ = some (.string (bs (ls.getD i ([], [])).2)) := by
  obtain ⟨a', cap', hv, h1, h2, h3⟩ := h
  obtain ⟨b, off, ha, hlt, hc⟩ := h3 (by intro e; subst e; simp at hi)
  simp only [Value.slice.injEq] at hv
  exact ⟨b, off, by rw [hv.1, ha], hlt, (hc i hi).1, (hc i hi).2⟩

def getL (ls : List Lab) (name : Bytes) : Bytes :=
  match ls with
  | [] => []
  | x :: r => if x.1 == name then x.2 else getL r name
theorem drop_lab {ls : List Lab} {k : Nat} (h : k < ls.length) : ls.drop k = ls.getD k ([], []) :: ls.drop (k + 1) := by
  rw [List.drop_eq_getElem_cons h]; simp [List.getD, List.getElem?_eq_getElem h]
theorem getL_hit {ls : List Lab} {name : Bytes} {k : Nat} (h : k < ls.length) (e : ((ls.getD k ([], [])).1 == name) = true) : getL (ls.drop k) name = (ls.getD k ([], [])).2 := by
  rw [drop_lab h]; simp only [getL]; rw [if_pos e]
theorem getL_miss {ls : List Lab} {name : Bytes} {k : Nat} (h : k < ls.length) (e : ((ls.getD k ([], [])).1 == name) = false) : getL (ls.drop k) name = getL (ls.drop (k + 1)) name := by
  rw [drop_lab h]; simp only [getL]; rw [if_neg (by rw [e]; exact Bool.false_ne_true)]
theorem getL_end {ls : List Lab} {name : Bytes} {k : Nat} (h : ls.length ≤ k) : getL (ls.drop k) name = [] := by rw [List.drop_eq_nil_of_le h]; rfl

set_option maxRecDepth 100000 in
set_option maxHeartbeats 400000 in
theorem get_any (v : Value) (ls : List Lab) (name : Bytes) (w : World) (hv : Labels w v ls) :
    Calls Tryz.prog 89 #[v, .string (bs name)] w fun e w' => e = .returned (.string (bs (getL ls name))) ∧ Below w.heap.size w w' := by
  have HV := Lib.hid hv
  obtain ⟨a, cap, rfl, h1, h2, -⟩ := hv
  go_enter Tryz.func89, Tryz.ntmps89
  go_wp2_with fail
  go_loopw [9] (fun i wr => ∃ k : Nat, k ≤ ls.length ∧ i = .int .i64 k ∧ getL (ls.drop k) name = getL ls name ∧ Below w.heap.size w wr)
    (fun i _ => ls.length - (intOf i).toNat)
  case atStart => exact ⟨0, Nat.zero_le _, rfl, rfl, Below.refl _ _⟩
  case round =>
    obtain ⟨k, hk, rfl, hg, hbel⟩ := hrel
    have HG := Lib.hid hg
    clear hg
    by_cases hlt : k < ls.length
    · obtain ⟨b, off, rfl, hb, hc1, hc2⟩ := (HV.out.below hbel).at_ hlt
      have HH := Lib.hid (fun e => getL_hit (name := name) hlt e)
      have HM := Lib.hid (fun e => getL_miss (name := name) hlt e)
      generalize (ls.getD k ([], [])).1 = n at *
      generalize (ls.getD k ([], [])).2 = x at *
      cases e : (n == name) with
      | true =>
        have HE := Lib.hid (HG.out.symm.trans (HH.out e))
        go_wp2_with fail
        go_ret
        exact ⟨by rw [HE.out]; rfl, hbel.alloc hbel.size _⟩
      | false =>
        have HE := Lib.hid ((HM.out e).symm.trans HG.out)
        go_wp2_with fail
        go_roundw
        case rel => exact ⟨k + 1, by omega, by go_num, HE.out, hbel.alloc hbel.size _⟩
        case measure => simp [intOf]; omega
    · have HE := Lib.hid (HG.out.symm.trans (getL_end (name := name) (by omega)))
      go_wp2_with fail
      go_ret
      exact ⟨by rw [HE.out]; rfl, hbel⟩

end Go.Proofs.YtheenlomlmbjaaaGreatDoor.L4

namespace Go.Proofs.YtheenlomlmbjaaaGreatDoor.L4
open Go.RowKit

def Strs (w : World) (v : Value) (ss : List Bytes) : Prop :=
  ∃ a cap, v = .slice a ss.length cap ∧ ss.length ≤ cap ∧ cap ≤ 9223372036854775807 ∧
    (ss ≠ [] → ∃ b off, a = some ⟨b, off, none⟩ ∧ b < w.heap.size ∧ ∀ i, i < ss.length → w.cell? ⟨b, off + i, none⟩ = some (.string (bs (ss.getD i []))))
theorem Strs.below {w w' : World} {v : Value} {ss : List Bytes} (h : Strs w v ss) (hb : Below w.heap.size w w') : Strs w' v ss := by
  obtain ⟨a, cap, hv, h1, h2, h3⟩ := h
  refine ⟨a, cap, hv, h1, h2, fun hx => ?_⟩
  obtain ⟨b, off, ha, hlt, hc⟩ := h3 hx
  exact ⟨b, off, ha, Nat.lt_of_lt_of_le hlt hb.size, fun i hi => (hb.cell (p := ⟨b, off + i, none⟩) hlt).trans (hc i hi)⟩
theorem Strs.at_ {w : World} {a : Option Addr} {n cap : Nat} {ss : List Bytes} (h : Strs w (.slice a n cap) ss) {i : Nat} (hi : i < ss.length) :
    ∃ b off, a = some ⟨b, off, none⟩ ∧ b < w.heap.size ∧ w.cell? ⟨b, off + i, none⟩ = some (.string (bs (ss.getD i []))) := by
  obtain ⟨a', cap', hv, h1, h2, h3⟩ := h
  obtain ⟨b, off, ha, hlt, hc⟩ := h3 (by intro e; subst e; simp at hi)
  simp only [Value.slice.injEq] at hv
  exact ⟨b, off, by rw [hv.1, ha], hlt, hc i hi⟩
theorem Strs.nil (w : World) (a : Option Addr) : Strs w (.slice a 0 0) [] := ⟨a, 0, rfl, Nat.le_refl _, by omega, fun h => absurd rfl h⟩

def hasS (ss : List Bytes) (x : Bytes) : Bool := ss.any (fun y => x == y)
theorem drop_str {ss : List Bytes} {k : Nat} (h : k < ss.length) : ss.drop k = ss.getD k [] :: ss.drop (k + 1) := by
  rw [List.drop_eq_getElem_cons h]; simp [List.getD, List.getElem?_eq_getElem h]

def Idx (ss : List Bytes) (x : Bytes) (w : World) (e : Ending) (w' : World) : Prop := ∃ i : Int, e = .returned (.int .i64 i) ∧ decide (0 ≤ i) = hasS ss x ∧ w = w'

set_option maxRecDepth 100000 in
set_option maxHeartbeats 400000 in
theorem indexS_any (v : Value) (ss : List Bytes) (x : Bytes) (w : World) (hv : Strs w v ss) :
    Calls Tryz.prog 231 #[v, .string (bs x)] w (Idx ss x w) := by
  have HV := Lib.hid hv
  obtain ⟨a, cap, rfl, h1, h2, -⟩ := hv
  go_enter Tryz.func231, Tryz.ntmps231
  go_wp2_with fail
  go_loop [8] (fun i => ∃ k : Nat, k ≤ ss.length ∧ i = .int .i64 k ∧ hasS (ss.drop k) x = hasS ss x)
    (fun i => ss.length - (intOf i).toNat)
  case atStart => exact ⟨0, Nat.zero_le _, rfl, rfl⟩
  case round =>
    obtain ⟨k, hk, rfl, hg⟩ := hrel
    have HG := Lib.hid hg
    clear hg
    by_cases hlt : k < ss.length
    · obtain ⟨b, off, rfl, hb, hc⟩ := HV.out.at_ hlt
      have HD := Lib.hid (drop_str hlt)
      generalize ss.getD k [] = n at *
      cases e : (x == n) with
      | true =>
        have HE := Lib.hid (show hasS ss x = true by rw [← HG.out, HD.out]; simp only [hasS, List.any_cons]; rw [e]; rfl)
        go_wp2_with fail
        go_ret
        exact ⟨_, rfl, by rw [HE.out]; exact decide_eq_true (by omega), rfl⟩
      | false =>
        have HE := Lib.hid (show hasS (ss.drop (k + 1)) x = hasS ss x by rw [← HG.out, HD.out]; simp only [hasS, List.any_cons]; rw [e]; rfl)
        go_wp2_with fail
        go_round
        case rel => exact ⟨k + 1, by omega, by go_num, HE.out⟩
        case measure => simp [intOf]; omega
    · have HE := Lib.hid (show hasS ss x = false by rw [← HG.out, List.drop_eq_nil_of_le (by omega)]; rfl)
      go_wp2_with fail
      go_ret
      exact ⟨_, rfl, by rw [HE.out]; rfl, rfl⟩

theorem containsS_any (v : Value) (ss : List Bytes) (x : Bytes) (w : World) (hv : Strs w v ss) :
    Calls Tryz.prog 165 #[v, .string (bs x)] w fun e w' => e = .returned (.bool (hasS ss x)) ∧ w = w' := by
  go_enter Tryz.func165, Tryz.ntmps165
  go_wp2_with fail
  refine (indexS_any v ss x _ hv).mono ?_
  rintro e w' ⟨i, rfl, hi, rfl⟩
  have HI := Lib.hid hi
  clear hi
  go_wp2_with fail
  go_ret
  exact ⟨by rw [← HI.out]; rfl, rfl⟩

def kindsV : Value := .agg #[.string (bs [61]), .func (.func 160) #[] #[], .string (bs [33, 61]), .func (.func 161) #[] #[],
  .string (bs [94, 61]), .func (.func 162) #[] #[], .string (bs [64, 61]), .func (.func 164) #[] #[]]

theorem kinds_any (w : World) :
    Calls Tryz.prog 88 #[] w fun e w' => e = .returned kindsV ∧ Below w.heap.size w w' := by
  go_enter Tryz.func88, Tryz.ntmps88
  go_wp2_with fail
  exact bodyPost_ret (v := kindsV) (by simp [results, Tryz.results88, go_sem, kindsV]) rfl ⟨rfl, (Below.refl _ _).alloc (Nat.le_refl _) _⟩

set_option maxRecDepth 100000 in
theorem kind1_any (k : Int) (n x y : Bytes) (u : Value) (w : World) :
    Calls Tryz.prog 160 #[.agg #[.int .i64 k, .string (bs n), .string (bs x), u], .string (bs y)] w fun e w' => e = .returned (.bool (y == x)) ∧ Below w.heap.size w w' := by
  go_enter Tryz.func160, Tryz.ntmps160
  go_wp2_with fail
  go_ret
  exact ⟨rfl, (Below.refl _ _).alloc (Nat.le_refl _) _⟩
set_option maxRecDepth 100000 in
theorem kind2_any (k : Int) (n x y : Bytes) (u : Value) (w : World) :
    Calls Tryz.prog 161 #[.agg #[.int .i64 k, .string (bs n), .string (bs x), u], .string (bs y)] w fun e w' => e = .returned (.bool (!(y == x))) ∧ Below w.heap.size w w' := by
  go_enter Tryz.func161, Tryz.ntmps161
  go_wp2_with fail
  go_ret
  exact ⟨rfl, (Below.refl _ _).alloc (Nat.le_refl _) _⟩
set_option maxRecDepth 100000 in
theorem kind3_any (k : Int) (n x y : Bytes) (u : Value) (w : World) (hx : x.length ≤ 1000000000000) (hy : y.length ≤ 1000000000000) :
    Calls Tryz.prog 162 #[.agg #[.int .i64 k, .string (bs n), .string (bs x), u], .string (bs y)] w fun e w' => e = .returned (.bool (isPre x y)) ∧ Below w.heap.size w w' := by
  go_enter Tryz.func162, Tryz.ntmps162
  go_wp2_with fail
  refine (hasPrefix_any y x _ hy hx).mono ?_
  rintro e w' ⟨rfl, rfl⟩
  go_wp2_with fail
  go_ret
  exact ⟨rfl, (Below.refl _ _).alloc (Nat.le_refl _) _⟩
set_option maxRecDepth 100000 in
theorem kind4_any (k : Int) (n x y : Bytes) (u : Value) (ss : List Bytes) (w : World) (hu : Strs w u ss) :
    Calls Tryz.prog 164 #[.agg #[.int .i64 k, .string (bs n), .string (bs x), u], .string (bs y)] w fun e w' => e = .returned (.bool (hasS ss y)) ∧ Below w.heap.size w w' := by
  go_enter Tryz.func164, Tryz.ntmps164
  go_wp2_with fail
  refine (containsS_any u ss y _ (hu.below ((Below.refl _ _).alloc (Nat.le_refl _) _))).mono ?_
  rintro e w' ⟨rfl, rfl⟩
  go_wp2_with fail
  go_ret
  exact ⟨rfl, (Below.refl _ _).alloc (Nat.le_refl _) _⟩

def oneB (k : Int) (n x : Bytes) (ss : List Bytes) (ls : List Lab) : Bool :=
  if k = 0 then getL ls n == x else if k = 1 then !(getL ls n == x) else if k = 2 then isPre x (getL ls n) else if k = 3 then hasS ss (getL ls n) else false

theorem kindIs (s : ByteArray) (f : Fn) (w : World) : (Instr.field 193 (.agg #[.string s, .func f #[] #[]]) 1).run Tryz.prog w = .ok (.func f #[] #[]) w := by kernel_rfl
theorem kindAt0 (w : World) : (Instr.index 194 kindsV (.int .i64 0)).run Tryz.prog w = .ok (.agg #[.string (bs [61]), .func (.func 160) #[] #[]]) w := by kernel_rfl
theorem kindAt1 (w : World) : (Instr.index 194 kindsV (.int .i64 1)).run Tryz.prog w = .ok (.agg #[.string (bs [33, 61]), .func (.func 161) #[] #[]]) w := by kernel_rfl
theorem kindAt2 (w : World) : (Instr.index 194 kindsV (.int .i64 2)).run Tryz.prog w = .ok (.agg #[.string (bs [94, 61]), .func (.func 162) #[] #[]]) w := by kernel_rfl
theorem kindAt3 (w : World) : (Instr.index 194 kindsV (.int .i64 3)).run Tryz.prog w = .ok (.agg #[.string (bs [64, 61]), .func (.func 164) #[] #[]]) w := by kernel_rfl

theorem keep4 {b : Nat} {c0 c1 c2 c3 : Value} {w w' : World} (h : w.cell? ⟨b, 0, none⟩ = some c0 ∧ w.cell? ⟨b, 1, none⟩ = some c1 ∧ w.cell? ⟨b, 2, none⟩ = some c2 ∧ w.cell? ⟨b, 3, none⟩ = some c3) (hb : Below w.heap.size w w') :
    w'.cell? ⟨b, 0, none⟩ = some c0 ∧ w'.cell? ⟨b, 1, none⟩ = some c1 ∧ w'.cell? ⟨b, 2, none⟩ = some c2 ∧ w'.cell? ⟨b, 3, none⟩ = some c3 := by
  have hlt : b < w.heap.size := World.block_lt_of_cell? w _ h.1
  exact ⟨(hb.cell (p := ⟨b, 0, none⟩) hlt).trans h.1, (hb.cell (p := ⟨b, 1, none⟩) hlt).trans h.2.1, (hb.cell (p := ⟨b, 2, none⟩) hlt).trans h.2.2.1, (hb.cell (p := ⟨b, 3, none⟩) hlt).trans h.2.2.2⟩
theorem below_box {w w' : World} {o : Obj} (h : Below (w.alloc o).drew.heap.size (w.alloc o).drew w') : Below w.heap.size w w' :=
  ((Below.refl _ _).alloc (Nat.le_refl _) _).drew.trans (h.mono (by simp [World.drew]))
set_option maxRecDepth 100000 in
set_option maxHeartbeats 1000000 in
theorem one_bad (k : Int) (n x : Bytes) (u v : Value) (w : World) (hk : k < 0 ∨ 3 < k) :
    Calls Tryz.prog 48 #[.agg #[.int .i64 k, .string (bs n), .string (bs x), u], v] w fun e w' => e = .returned (.bool false) ∧ Below w.heap.size w w' := by
  rcases hk with hk | hk
  · go_enter Tryz.func48, Tryz.ntmps48
    go_wp2_with fail
    go_ret
    exact ⟨rfl, (Below.refl _ _).alloc (Nat.le_refl _) _⟩
  · have hk' : ¬ k < 0 := by omega
    go_enter Tryz.func48, Tryz.ntmps48
    go_wp2_with fail
    go_ret
    exact ⟨rfl, (Below.refl _ _).alloc (Nat.le_refl _) _⟩

set_option maxRecDepth 100000 in
set_option maxHeartbeats 1000000 in
attribute [local go_sem ↓] Go.wp_at_zero Go.wp_at_succ in
theorem one_0 (n x : Bytes) (u v : Value) (ls : List Lab) (w : World) (hv : Labels w v ls) :
    Calls Tryz.prog 48 #[.agg #[.int .i64 0, .string (bs n), .string (bs x), u], v] w fun e w' => e = .returned (.bool (getL ls n == x)) ∧ Below w.heap.size w w' := by
  have HV := Lib.hid hv
  clear hv
  have hi := kindAt0
  have hfi := kindIs
  go_enter Tryz.func48, Tryz.ntmps48
  go_wp2_with fail
  go_region_held3 (fun w' => w'.cell? ⟨w.heap.size, 0, none⟩ = some (.int .i64 0) ∧ w'.cell? ⟨w.heap.size, 1, none⟩ = some (.string (bs n)) ∧ w'.cell? ⟨w.heap.size, 2, none⟩ = some (.string (bs x)) ∧ w'.cell? ⟨w.heap.size, 3, none⟩ = some u)
    (first | exact keep4 (by assumption) hb3 | exact keep4 (by assumption) hb2 | exact keep4 (by assumption) hb1 | go_keep)
    (first
      | (go_at_call 88; refine (kinds_any _).mono ?_; rintro e w1 ⟨rfl, hb1⟩)
      | (go_at_call 89; refine (get_any _ ls n _ ?_).mono ?_; (exact HV.out.below (below_box hb1)); rintro e w2 ⟨rfl, hb2⟩)
      | (go_at_call 160; refine (kind1_any _ _ _ _ _ _).mono ?_; rintro e w3 ⟨rfl, hb3⟩))
  all_goals go_wp2_with fail
  all_goals go_ret
  all_goals exact ⟨rfl, (below_box hb1).trans ((hb2.mono (below_box hb1).size).trans (hb3.mono (Nat.le_trans (below_box hb1).size hb2.size)))⟩

set_option maxRecDepth 100000 in
set_option maxHeartbeats 1000000 in
attribute [local go_sem ↓] Go.wp_at_zero Go.wp_at_succ in
theorem one_1 (n x : Bytes) (u v : Value) (ls : List Lab) (w : World) (hv : Labels w v ls) :
    Calls Tryz.prog 48 #[.agg #[.int .i64 1, .string (bs n), .string (bs x), u], v] w fun e w' => e = .returned (.bool (!(getL ls n == x))) ∧ Below w.heap.size w w' := by
  have HV := Lib.hid hv
  clear hv
  have hi := kindAt1
  have hfi := kindIs
  go_enter Tryz.func48, Tryz.ntmps48
  go_wp2_with fail
  go_region_held3 (fun w' => w'.cell? ⟨w.heap.size, 0, none⟩ = some (.int .i64 1) ∧ w'.cell? ⟨w.heap.size, 1, none⟩ = some (.string (bs n)) ∧ w'.cell? ⟨w.heap.size, 2, none⟩ = some (.string (bs x)) ∧ w'.cell? ⟨w.heap.size, 3, none⟩ = some u)
    (first | exact keep4 (by assumption) hb3 | exact keep4 (by assumption) hb2 | exact keep4 (by assumption) hb1 | go_keep)
    (first
      | (go_at_call 88; refine (kinds_any _).mono ?_; rintro e w1 ⟨rfl, hb1⟩)
      | (go_at_call 89; refine (get_any _ ls n _ ?_).mono ?_; (exact HV.out.below (below_box hb1)); rintro e w2 ⟨rfl, hb2⟩)
      | (go_at_call 161; refine (kind2_any _ _ _ _ _ _).mono ?_; rintro e w3 ⟨rfl, hb3⟩))
  all_goals go_wp2_with fail
  all_goals go_ret
  all_goals exact ⟨rfl, (below_box hb1).trans ((hb2.mono (below_box hb1).size).trans (hb3.mono (Nat.le_trans (below_box hb1).size hb2.size)))⟩

set_option maxRecDepth 100000 in
set_option maxHeartbeats 1000000 in
attribute [local go_sem ↓] Go.wp_at_zero Go.wp_at_succ in
theorem one_2 (n x : Bytes) (u v : Value) (ls : List Lab) (w : World) (hv : Labels w v ls) (hx : x.length ≤ 1000000000000) (hy : (getL ls n).length ≤ 1000000000000) :
    Calls Tryz.prog 48 #[.agg #[.int .i64 2, .string (bs n), .string (bs x), u], v] w fun e w' => e = .returned (.bool (isPre x (getL ls n))) ∧ Below w.heap.size w w' := by
  have HV := Lib.hid hv
  clear hv
  have hi := kindAt2
  have hfi := kindIs
  go_enter Tryz.func48, Tryz.ntmps48
  go_wp2_with fail
  go_region_held3 (fun w' => w'.cell? ⟨w.heap.size, 0, none⟩ = some (.int .i64 2) ∧ w'.cell? ⟨w.heap.size, 1, none⟩ = some (.string (bs n)) ∧ w'.cell? ⟨w.heap.size, 2, none⟩ = some (.string (bs x)) ∧ w'.cell? ⟨w.heap.size, 3, none⟩ = some u)
    (first | exact keep4 (by assumption) hb3 | exact keep4 (by assumption) hb2 | exact keep4 (by assumption) hb1 | go_keep)
    (first
      | (go_at_call 88; refine (kinds_any _).mono ?_; rintro e w1 ⟨rfl, hb1⟩)
      | (go_at_call 89; refine (get_any _ ls n _ ?_).mono ?_; (exact HV.out.below (below_box hb1)); rintro e w2 ⟨rfl, hb2⟩)
      | (go_at_call 162; refine (kind3_any _ _ _ _ _ _ hx hy).mono ?_; rintro e w3 ⟨rfl, hb3⟩))
  all_goals go_wp2_with fail
  all_goals go_ret
  all_goals exact ⟨rfl, (below_box hb1).trans ((hb2.mono (below_box hb1).size).trans (hb3.mono (Nat.le_trans (below_box hb1).size hb2.size)))⟩

set_option maxRecDepth 100000 in
set_option maxHeartbeats 1000000 in
attribute [local go_sem ↓] Go.wp_at_zero Go.wp_at_succ in
theorem one_3 (n x : Bytes) (u v : Value) (ls : List Lab) (w : World) (hv : Labels w v ls) (ss : List Bytes) (hu : Strs w u ss) :
    Calls Tryz.prog 48 #[.agg #[.int .i64 3, .string (bs n), .string (bs x), u], v] w fun e w' => e = .returned (.bool (hasS ss (getL ls n))) ∧ Below w.heap.size w w' := by
  have HV := Lib.hid hv
  have HU := Lib.hid hu
  clear hu
  clear hv
  have hi := kindAt3
  have hfi := kindIs
  go_enter Tryz.func48, Tryz.ntmps48
  go_wp2_with fail
  go_region_held3 (fun w' => w'.cell? ⟨w.heap.size, 0, none⟩ = some (.int .i64 3) ∧ w'.cell? ⟨w.heap.size, 1, none⟩ = some (.string (bs n)) ∧ w'.cell? ⟨w.heap.size, 2, none⟩ = some (.string (bs x)) ∧ w'.cell? ⟨w.heap.size, 3, none⟩ = some u)
    (first | exact keep4 (by assumption) hb3 | exact keep4 (by assumption) hb2 | exact keep4 (by assumption) hb1 | go_keep)
    (first
      | (go_at_call 88; refine (kinds_any _).mono ?_; rintro e w1 ⟨rfl, hb1⟩)
      | (go_at_call 89; refine (get_any _ ls n _ ?_).mono ?_; (exact HV.out.below (below_box hb1)); rintro e w2 ⟨rfl, hb2⟩)
      | (go_at_call 164; refine (kind4_any _ _ _ _ _ ss _ ?_).mono ?_; (exact HU.out.below ((below_box hb1).trans (hb2.mono (below_box hb1).size))); rintro e w3 ⟨rfl, hb3⟩))
  all_goals go_wp2_with fail
  all_goals go_ret
  all_goals exact ⟨rfl, (below_box hb1).trans ((hb2.mono (below_box hb1).size).trans (hb3.mono (Nat.le_trans (below_box hb1).size hb2.size)))⟩

theorem one_any (k : Int) (n x : Bytes) (u v : Value) (ss : List Bytes) (ls : List Lab) (w : World) (hv : Labels w v ls) (hu : Strs w u ss) (hx : x.length ≤ 1000000000000) (hy : (getL ls n).length ≤ 1000000000000) :
    Calls Tryz.prog 48 #[.agg #[.int .i64 k, .string (bs n), .string (bs x), u], v] w fun e w' => e = .returned (.bool (oneB k n x ss ls)) ∧ Below w.heap.size w w' := by
  by_cases h : k < 0 ∨ 3 < k
  · have e : oneB k n x ss ls = false := by unfold oneB; rw [if_neg (by omega), if_neg (by omega), if_neg (by omega), if_neg (by omega)]
    rw [e]; exact one_bad k n x u v w h
  · rcases (show k = 0 ∨ k = 1 ∨ k = 2 ∨ k = 3 by omega) with rfl | rfl | rfl | rfl
    · exact one_0 n x u v ls w hv
    · exact one_1 n x u v ls w hv
    · exact one_2 n x u v ls w hv hx hy
    · exact one_3 n x u v ls w hv ss hu

end Go.Proofs.YtheenlomlmbjaaaGreatDoor.L4
