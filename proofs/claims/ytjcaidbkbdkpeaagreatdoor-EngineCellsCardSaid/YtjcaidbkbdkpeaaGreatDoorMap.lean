/- A small map that a call makes: known whole. No program is named here. -/
import Derived.Test.YtjcaidbkbdkpeaaGreatDoorBase
import Derived.MapKept
import Derived.Carry
namespace Go.Rh
open Go Go.RowKit

def entOf (p : (Int × Value) × Nat) : MapEntry := ⟨.int .i64 p.1.1, p.1.2, p.2⟩

/-- A map known whole: its keys and elements, in the order in which they came. -/
def MapB (w : World) (b : Nat) (ps : List (Int × Value)) : Prop := w.heap[b]? = some (.map ((ps.zipIdx 0).map entOf).toArray ps.length)

/-- What stays while a map is written. -/
structure Turn (w : World) (b : Nat) (w' : World) : Prop where
  cell : ∀ p, w'.cell? p = w.cell? p
  frozen : ∀ p, w'.frozen? p = w.frozen? p
  size : w'.heap.size = w.heap.size
  heap : ∀ c, c ≠ b → w'.heap[c]? = w.heap[c]?
  os : w'.os = w.os
  tape : w'.tape = w.tape
  output : w'.output = w.output

section
variable {w w1 : World} {b : Nat} {ps : List (Int × Value)}
theorem MapB.new (w : World) : MapB (w.alloc (.map #[] 0)) w.heap.size [] := by
  show (w.heap.push _)[w.heap.size]? = _
  simp
theorem MapB.lt (h : MapB w b ps) : b < w.heap.size := (Array.getElem?_eq_some_iff.1 h).1
theorem MapB.to (h : MapB w b ps) (hk : w1.heap[b]? = w.heap[b]?) : MapB w1 b ps := hk.trans h
theorem MapB.alloc (h : MapB w b ps) (x : Obj) : MapB (w.alloc x) b ps := h.to (Below.heap_alloc _ _ _ h.lt)
theorem MapB.turn (h : MapB w b ps) {c : Nat} (t : Turn w c w1) (hne : b ≠ c) : MapB w1 b ps := h.to (t.heap b hne)
theorem MapB.kept {T : Nat → Prop} {o o1 : Owner} (h : MapB w b ps) (m : Mod T w o w1 o1) (hT : ¬ T (o b)) : MapB w1 b ps := h.to (m.keep b h.lt hT)
theorem Blk.turn {cs : List Value} {e : TypeId} {c : Nat} (h : Blk w b cs e) (t : Turn w c w1) (hne : b ≠ c) : Blk w1 b cs e := h.to (t.heap b hne)
theorem Mod.turn {T : Nat → Prop} {w0 : World} {o o1 : Owner} (m : Mod T w0 o w o1) {c : Nat} (t : Turn w c w1) (hc : w0.heap.size ≤ c) : Mod T w0 o w1 o1 :=
  ⟨t.os.trans m.os, t.tape.trans m.tape, t.output.trans m.output, by rw [t.size]; exact m.size, by rw [t.size]; exact m.wf, m.own, fun b hb hT => (t.heap b (by omega)).trans (m.keep b hb hT)⟩
end

theorem find_none (k : Int) : ∀ (ps : List (Int × Value)) (s i : Nat), (∀ p ∈ ps, p.1 ≠ k) → Instr.findNow (.int .i64) (.int .i64 k) ((ps.zipIdx s).map entOf) i = some none
  | [], _, _, _ => rfl
  | p :: ps, s, i, h => by
    have h1 : (k == p.1) = false := by simpa using (fun e => h p (by simp) e.symm : ¬ k = p.1)
    have h2 := find_none k ps (s + 1) (i + 1) (fun q hq => h q (by simp [hq]))
    simp only [List.zipIdx_cons, List.map_cons, entOf, Instr.findNow, Instr.sameNow, if_true, h1]
    exact h2

theorem find_some (k : Int) (v : Value) : ∀ (ps : List (Int × Value)) (s i : Nat), ps.lookup k = some v → ∃ j, Instr.findNow (.int .i64) (.int .i64 k) ((ps.zipIdx s).map entOf) i = some (some (j, v))
  | [], _, _, h => by simp at h
  | p :: ps, s, i, h => by
    obtain ⟨a, x⟩ := p
    by_cases hk : k = a
    · subst hk
      simp [List.lookup] at h
      subst h
      exact ⟨i, by simp [List.zipIdx_cons, entOf, Instr.findNow, Instr.sameNow]⟩
    · have hk' : (k == a) = false := by simpa using hk
      simp only [List.lookup, hk'] at h
      obtain ⟨j, hj⟩ := find_some k v ps (s + 1) (i + 1) h
      exact ⟨j, by simp [List.zipIdx_cons, entOf, Instr.findNow, Instr.sameNow, hk'] ; simpa [entOf] using hj⟩

section
variable {P : Program} {w : World} {t kt et : TypeId} {b : Nat} {ps : List (Int × Value)}
theorem run_put (ht : P.underlying t = some (.map kt et)) (hk : P.underlying kt = some (.int .i64)) (hb : MapB w b ps) (k : Int) (v : Value) (hne : ∀ p ∈ ps, p.1 ≠ k) :
    (Instr.mapUpdate t (.map (some b)) (.int .i64 k) v).run P w = .ok () { w with heap := w.heap.setIfInBounds b (.map ((((ps ++ [(k, v)]).zipIdx 0).map entOf).toArray) (ps ++ [(k, v)]).length) } := by
  have hb' : w.heap[b]? = _ := hb
  have hkey : MapKept.IsKey (.int .i64) (.int .i64 k) := by simp [MapKept.IsKey]
  have hf := find_none k ps 0 0 hne
  have e1 : (((ps ++ [(k, v)]).zipIdx 0).map entOf).toArray = (((ps.zipIdx 0).map entOf).toArray).push ⟨.int .i64 k, v, ps.length⟩ := by
    simp [List.zipIdx_append, entOf]
  rw [e1]
  simp [Instr.mapUpdate, run_underlying ht, MapKept.run_getObj_map hb', MapKept.run_checkKey hk hkey, MapKept.run_findKey hk hf, MapKept.run_setObj_map _ hb', Result.andThen]

theorem put_turn (hb : MapB w b ps) (es : Array MapEntry) (n : Nat) : Turn w b { w with heap := w.heap.setIfInBounds b (.map es n) } := by
  have hb' : w.heap[b]? = _ := hb
  obtain ⟨h1, h2⟩ := MapKept.heap_set (o' := .map es n) hb'
  refine ⟨fun p => ?_, fun p => ?_, by simp, h2, rfl, rfl, rfl⟩
  · by_cases hp : p.block = b
    · unfold World.cell?; rw [hp]
      show (match (w.heap.setIfInBounds b (.map es n))[b]? with | some (.cells c _ _) => _ | _ => none) = _
      rw [h1, hb']
    · exact World.cell?_of_block (h2 _ hp)
  · by_cases hp : p.block = b
    · unfold World.frozen?; rw [hp]
      show (match (w.heap.setIfInBounds b (.map es n))[b]? with | some (.cells _ _ (lo, hi)) => _ | _ => false) = _
      rw [h1, hb']
    · exact World.frozen?_of_block (h2 _ hp)

/-- A key that is not there yet goes in. -/
theorem wpList_insert {ops : Array Oper} {rest : List Oper} {o : Oper} {a : Act} {Q : Exit → Act → World → Prop} {m x y : Operand} (ho : o.op = .insert t m x y) (hg : o.guard = none)
    (ht : P.underlying t = some (.map kt et)) (hk : P.underlying kt = some (.int .i64)) (hm : a.eval m = .map (some b)) (hb : MapB w b ps) {k : Int} (hx : a.eval x = .int .i64 k) {v : Value} (hy : a.eval y = v) (hne : ∀ p ∈ ps, p.1 ≠ k)
    (hK : ∀ w', MapB w' b (ps ++ [(k, v)]) → Turn w b w' → wpList P ops Q rest (a.put o.dst undef) w') :
    wpList P ops Q (o :: rest) a w := by
  refine wpList_plain hg fun K' hK' => ?_
  have hrun := run_put ht hk hb k v hne
  unfold Oper.wp
  simp [execOp, ho, hm, hx, hy, hrun, Result.andThen]
  refine hK' _ _ (hK _ ?_ (by have := put_turn hb (((ps ++ [(k, v)]).zipIdx 0).map entOf).toArray (ps ++ [(k, v)]).length; simpa using this))
  have := (MapKept.heap_set (o' := .map (((ps ++ [(k, v)]).zipIdx 0).map entOf).toArray (ps ++ [(k, v)]).length) (show w.heap[b]? = _ from hb)).1
  simpa [MapB] using this

theorem run_look_some (ht : P.underlying t = some (.map kt et)) (hk : P.underlying kt = some (.int .i64)) (hb : MapB w b ps) {k : Int} {v : Value} (h : ps.lookup k = some v) :
    (Instr.lookup t (.map (some b)) (.int .i64 k) false).run P w = .ok v w := by
  have hb' : w.heap[b]? = _ := hb
  have hkey : MapKept.IsKey (.int .i64) (.int .i64 k) := by simp [MapKept.IsKey]
  obtain ⟨j, hj⟩ := find_some k v ps 0 0 h
  simp [Instr.lookup, run_underlying ht, MapKept.run_getObj_map hb', MapKept.run_checkKey hk hkey, MapKept.run_findKey hk hj, Result.andThen]
theorem run_look_none (ht : P.underlying t = some (.map kt et)) (hk : P.underlying kt = some (.int .i64)) (hb : MapB w b ps) {k : Int} {z : Value} (hz : (zeroValue et).run P w = .ok z w) (h : ∀ p ∈ ps, p.1 ≠ k) :
    (Instr.lookup t (.map (some b)) (.int .i64 k) false).run P w = .ok z w := by
  have hb' : w.heap[b]? = _ := hb
  have hkey : MapKept.IsKey (.int .i64) (.int .i64 k) := by simp [MapKept.IsKey]
  have hj := find_none k ps 0 0 h
  simp [Instr.lookup, run_underlying ht, MapKept.run_getObj_map hb', MapKept.run_checkKey hk hkey, MapKept.run_findKey hk hj, hz, Result.andThen]
end
end Go.Rh
