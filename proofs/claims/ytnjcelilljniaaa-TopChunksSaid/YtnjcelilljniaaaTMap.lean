/-
  Maps whose elements are kept as they are: a look-up gives the value that was put, the store is one world.
-/
import Derived.Maps.RangeWalk
import Derived.Test.YtnjcelilljniaaaTZigP
namespace Go.Proofs.Ytnjcelilljniaaa
open Go.RowKit Go.Maps Go.ChangeMaps
open Go.WideElems (Fit rd rg pl rd_val)

/-- An element as it is. -/
def rawE (v : Value) : Option (DataW Value × List MemPlace) := some (.held v, [])
theorem rawE_eq (v : Value) : rawE v = some (.held v, []) := rfl
theorem rawE_inv {v x : Value} {ps : List MemPlace} (h : rawE v = some (.held x, ps)) : v = x := by cases h; rfl
theorem rawE_any {v : Value} {y : DataW Value × List MemPlace} (h : rawE v = some y) : y = (.held v, []) := by cases h; rfl

section
variable {P : Program} {k : TypeId} {w : World} {b n : Nat} {D : DataW Value} {t e : TypeId} {key : Value} {kl : Lit}

abbrev OMap (P : Program) (k : TypeId) (w : World) (b n : Nat) (D : DataW Value) : Prop := w.ownsMap P k rawE b n D

theorem look_raw (h : OMap P k w b n D) (K : Keyed P k) (ht : P.underlying t = some (.map k e)) {z : Value} (hz : (zeroValue e).run P w = .ok z w) (hkey : keyOf P k key = some kl) {v : Value} (hd : D.atKey kl (.held z) = .held v) :
    (Instr.lookup t (.map (some b)) key false).run P w = .ok v w := by
  obtain ⟨v', ps, hrun, hv⟩ := h.lookup K ht hz (rawE_eq z) hkey
  rw [hd] at hv
  rw [rawE_inv hv] at hrun
  exact hrun
theorem look_ok (h : OMap P k w b n D) (K : Keyed P k) (ht : P.underlying t = some (.map k e)) {z : Value} (hz : (zeroValue e).run P w = .ok z w) (hkey : keyOf P k key = some kl) {v : Value} (hd : ∀ zd, D.atKey kl zd = .held v) :
    (Instr.lookup t (.map (some b)) key true).run P w = .ok (.tuple #[v, .bool true]) w := by
  obtain ⟨es, clock, hb, F, _, rfl⟩ := h
  rcases Maps.fit_look true K ht hz hb F hkey with ⟨hrun, _, hat⟩ | ⟨e0, y, _, _, hrun, hRv, hat, _⟩
  · have h1 := hat .nil
    rw [hd .nil] at h1
    cases h1
  · have h1 := hat .nil
    rw [hd .nil] at h1
    rw [rawE_any hRv] at h1
    cases h1
    exact hrun
theorem look_no (h : OMap P k w b n D) (K : Keyed P k) (ht : P.underlying t = some (.map k e)) {z : Value} (hz : (zeroValue e).run P w = .ok z w) (hkey : keyOf P k key = some kl) (hd : D.atKey kl .nil = .nil) :
    (Instr.lookup t (.map (some b)) key true).run P w = .ok (.tuple #[z, .bool false]) w := by
  obtain ⟨es, clock, hb, F, _, rfl⟩ := h
  rcases Maps.fit_look true K ht hz hb F hkey with ⟨hrun, _, hat⟩ | ⟨e0, y, _, _, hrun, hRv, hat, _⟩
  · exact hrun
  · have h1 := hat .nil
    rw [hd, rawE_any hRv] at h1
    cases h1

/-- The map's block, with keys that are read. -/
def KeysOk (P : Program) (k : TypeId) (w : World) (b : Nat) : Prop := ∃ es clock, w.heap[b]? = some (.map es clock) ∧ ∀ x ∈ es.toList, ∃ l, keyOf P k x.key = some l
theorem OMap.keysOk (h : OMap P k w b n D) : KeysOk P k w b := by
  obtain ⟨es, clock, hb, F, _, _⟩ := h
  exact ⟨es, clock, hb, F.keys⟩
theorem KeysOk.kept {w' : World} {row : Option Nat} (h : KeysOk P k w b) (hg : w.grownBy w' row) (hne : some b ≠ row) : KeysOk P k w' b := by
  obtain ⟨es, clock, hb, hk⟩ := h
  exact ⟨es, clock, (hg.block b (Array.getElem?_eq_some_iff.1 hb).1 hne).trans hb, hk⟩
theorem KeysOk.drew (h : KeysOk P k w b) : KeysOk P k w.drew b := h
theorem KeysOk.lt (h : KeysOk P k w b) : b < w.heap.size := by
  obtain ⟨es, clock, hb, _⟩ := h; exact (Array.getElem?_eq_some_iff.1 hb).1

def mapGet (P : Program) (t : TypeId) (b : Nat) (key : Value) (w : World) : Value :=
  match (Instr.lookup t (.map (some b)) key false).run P w with
  | .ok v _ => v
  | _ => undef
def mapPut (P : Program) (t : TypeId) (b : Nat) (key v : Value) (w : World) : World :=
  match (Instr.mapUpdate t (.map (some b)) key v).run P w with
  | .ok _ w' => w'
  | _ => w

theorem mapGet_eq {v : Value} {w' : World} (h : (Instr.lookup t (.map (some b)) key false).run P w = .ok v w') : mapGet P t b key w = v := by
  unfold mapGet; rw [h]
theorem mapPut_eq {v : Value} {w' : World} (h : (Instr.mapUpdate t (.map (some b)) key v).run P w = .ok () w') : mapPut P t b key v w = w' := by
  unfold mapPut; rw [h]

theorem KeysOk.get (h : KeysOk P k w b) (K : Keyed P k) (ht : P.underlying t = some (.map k e)) {z : Value} (hz : (zeroValue e).run P w = .ok z w) (hkey : keyOf P k key = some kl) :
    (Instr.lookup t (.map (some b)) key false).run P w = .ok (mapGet P t b key w) w := by
  obtain ⟨es, clock, hb, hk⟩ := h
  have hex : ∃ v, (Instr.lookup t (.map (some b)) key false).run P w = .ok v w := by
    rcases K.find w hkey es.toList hk with ⟨h1, h2⟩ | ⟨j, e0, h1, h2, h3⟩
    · exact ⟨z, by simp [Instr.lookup, run_underlying ht, MapKept.run_getObj_map hb, K.check w _ hkey, h1, hz, Result.andThen]⟩
    · exact ⟨e0.val, by simp [Instr.lookup, run_underlying ht, MapKept.run_getObj_map hb, K.check w _ hkey, h1, Result.andThen]⟩
  obtain ⟨v, hv⟩ := hex
  rw [mapGet_eq hv]
  exact hv
theorem KeysOk.put (h : KeysOk P k w b) (K : Keyed P k) (ht : P.underlying t = some (.map k e)) (hkey : keyOf P k key = some kl) (v : Value) :
    (Instr.mapUpdate t (.map (some b)) key v).run P w = .ok () (mapPut P t b key v w) ∧ KeysOk P k (mapPut P t b key v w) b ∧ w.grownBy (mapPut P t b key v w) (some b) := by
  obtain ⟨es, clock, hb, hk⟩ := h
  have hex : ∃ es' clock', (Instr.mapUpdate t (.map (some b)) key v).run P w = .ok () (setBlock w b (.map es' clock')) ∧ ∀ x ∈ es'.toList, ∃ l, keyOf P k x.key = some l := by
    rcases K.find w hkey es.toList hk with ⟨h1, h2⟩ | ⟨j, e0, h1, h2, h3⟩
    · refine ⟨es.push ⟨key, v, clock⟩, clock + 1, ?_, ?_⟩
      · simp [Instr.mapUpdate, run_underlying ht, MapKept.run_getObj_map hb, K.check w false hkey, h1, MapKept.run_setObj_map _ hb, Result.andThen, setBlock]
      · intro x hx
        simp only [Array.toList_push, List.mem_append, List.mem_singleton] at hx
        rcases hx with hx | rfl
        · exact hk x hx
        · exact ⟨kl, hkey⟩
    · have hj : es[j]? = some e0 := by simpa using h2
      refine ⟨es.modify j (fun e' => { e' with key := key, val := v }), clock, ?_, ?_⟩
      · simp [Instr.mapUpdate, run_underlying ht, MapKept.run_getObj_map hb, K.check w false hkey, h1, hj, h3, K.stays w hkey, MapKept.run_setObj_map _ hb, Result.andThen, setBlock]
      · intro x hx
        rw [Array.toList_modify, modify_eq_set _ _ _ _ h2] at hx
        rcases List.mem_or_eq_of_mem_set hx with hx | rfl
        · exact hk x hx
        · exact ⟨kl, hkey⟩
  obtain ⟨es', clock', hrun, hk'⟩ := hex
  rw [mapPut_eq hrun]
  exact ⟨hrun, ⟨es', clock', heap_setBlock_same hb _, hk'⟩, ⟨rfl, rfl, rfl, by simp [setBlock], fun i _ hi => heap_setBlock_other hb _ (fun e => hi (by rw [e]))⟩⟩
theorem OMap.put (h : OMap P k w b n D) (K : Keyed P k) (ht : P.underlying t = some (.map k e)) (hn : n < maxLen) (hkey : keyOf P k key = some kl) (v : Value) :
    OMap P k (mapPut P t b key v w) b (n + 1) (D.put kl (.held v)) := by
  obtain ⟨w', hrun, h1, h2⟩ := h.update K ht hn hkey (rawE_eq v)
  rw [mapPut_eq hrun]
  exact h1
theorem OMap.below {w' : World} (h : OMap P k w b n D) (hb : Below w.heap.size w w') : OMap P k w' b n D := by
  have hlt := h.lt
  obtain ⟨es, clock, hb', F, hs, hD⟩ := h
  exact ⟨es, clock, (hb.block b hlt).trans hb', F, hs, hD⟩

/-- What a region reads of a map at a key, and may write. -/
def MReg (P : Program) (k t : TypeId) (b : Nat) (key : Value) (w : World) : Prop :=
  KeysOk P k w b ∧ (Instr.lookup t (.map (some b)) key false).run P w = .ok (mapGet P t b key w) w ∧ ∀ v, (Instr.mapUpdate t (.map (some b)) key v).run P w = .ok () (mapPut P t b key v w)
theorem KeysOk.reg (h : KeysOk P k w b) (K : Keyed P k) (ht : P.underlying t = some (.map k e)) {z : Value} (hz : ∀ w, (zeroValue e).run P w = .ok z w) (hkey : keyOf P k key = some kl) : MReg P k t b key w :=
  ⟨h, h.get K ht (hz w) hkey, fun v => (h.put K ht hkey v).1⟩

end
end Go.Proofs.Ytnjcelilljniaaa
