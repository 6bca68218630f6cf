/- The ground of the proofs about the Forth system: who owns which block of memory, and what a call leaves alone. No program is named here. -/
import Derived.WalkKit
import Derived.WalkSpells
import Derived.WalkLawsBesides
import Derived.Lib.Hide
import Derived.Maps.AppendAt
import Derived.Deep.AppendSrc
import Derived.Deep.DeepFit
import Derived.Deep.LoopGhost
import Derived.Deep.DeepMust
import Derived.BigQuiet
import Derived.Deep.QuietTactic
namespace Go.Rh
open Go Go.RowKit

section
variable {α β : Type} (f : α → List β) (s : Nat) (hf : ∀ x, (f x).length = s)
include hf
theorem flat_length (l : List α) : (l.flatMap f).length = l.length * s := by
  induction l with
  | nil => simp
  | cons x l ih => rw [List.flatMap_cons, List.length_append, hf, ih, List.length_cons, Nat.add_mul]; omega
theorem flat_take (l : List α) (m : Nat) : (l.take m).flatMap f = (l.flatMap f).take (m * s) := by
  induction l generalizing m with
  | nil => simp
  | cons x l ih =>
    cases m with
    | zero => simp
    | succ m =>
      rw [List.take_succ_cons, List.flatMap_cons, List.flatMap_cons, ih, List.take_append, hf, show (m + 1) * s - s = m * s by rw [Nat.add_mul]; omega, List.take_of_length_le (l := f x) (by rw [hf, Nat.add_mul]; omega)]
theorem flat_drop (l : List α) (m : Nat) : (l.drop m).flatMap f = (l.flatMap f).drop (m * s) := by
  induction l generalizing m with
  | nil => simp
  | cons x l ih =>
    cases m with
    | zero => simp
    | succ m =>
      rw [List.drop_succ_cons, List.flatMap_cons, ih, List.drop_append, hf, show (m + 1) * s - s = m * s by rw [Nat.add_mul]; omega, List.drop_eq_nil_of_le (as := f x) (by rw [hf, Nat.add_mul]; omega), List.nil_append]
theorem flat_get (l : List α) (i j : Nat) (x : α) (hx : l[i]? = some x) (hj : j < s) : (l.flatMap f)[i * s + j]? = (f x)[j]? := by
  induction l generalizing i with
  | nil => simp at hx
  | cons y l ih =>
    cases i with
    | zero =>
      simp at hx; subst hx
      rw [List.flatMap_cons, List.getElem?_append_left (by rw [hf]; omega), Nat.zero_mul, Nat.zero_add]
    | succ i =>
      simp at hx
      rw [List.flatMap_cons, List.getElem?_append_right (by rw [hf, Nat.add_mul]; omega), hf, show (i + 1) * s + j - s = i * s + j by rw [Nat.add_mul]; omega]
      exact ih i hx
end

/-- The owner of each block: 0 is nobody. -/
abbrev Owner := Nat → Nat

/-- From one world to another: blocks whose owner is not in T are as they were. -/
structure Mod (T : Nat → Prop) (w : World) (o : Owner) (w' : World) (o' : Owner) : Prop where
  os : w'.os = w.os
  tape : w'.tape = w.tape
  output : w'.output = w.output
  size : w.heap.size ≤ w'.heap.size
  wf : ∀ b, w'.heap.size ≤ b → o' b = 0
  own : ∀ b, b < w.heap.size → o' b = o b
  keep : ∀ b, b < w.heap.size → ¬ T (o b) → w'.heap[b]? = w.heap[b]?

def Wf (w : World) (o : Owner) : Prop := ∀ b, w.heap.size ≤ b → o b = 0

section
variable {T T' : Nat → Prop} {w w1 w2 : World} {o o1 o2 : Owner}

theorem Mod.refl (T : Nat → Prop) (h : Wf w o) : Mod T w o w o := ⟨rfl, rfl, rfl, Nat.le_refl _, h, fun _ _ => rfl, fun _ _ _ => rfl⟩

theorem Mod.trans (h : Mod T w o w1 o1) (k : Mod T w1 o1 w2 o2) : Mod T w o w2 o2 :=
  ⟨k.os.trans h.os, k.tape.trans h.tape, k.output.trans h.output, Nat.le_trans h.size k.size, k.wf,
   fun b hb => (k.own b (Nat.lt_of_lt_of_le hb h.size)).trans (h.own b hb),
   fun b hb hT => (k.keep b (Nat.lt_of_lt_of_le hb h.size) (by rw [h.own b hb]; exact hT)).trans (h.keep b hb hT)⟩

theorem Mod.mono (h : Mod T w o w1 o1) (hT : ∀ t, T t → T' t) : Mod T' w o w1 o1 :=
  ⟨h.os, h.tape, h.output, h.size, h.wf, h.own, fun b hb hn => h.keep b hb (fun ht => hn (hT _ ht))⟩

theorem Mod.alloc (h : Mod T w o w1 o1) (x : Obj) : Mod T w o (w1.alloc x) o1 :=
  h.trans ⟨rfl, rfl, rfl, by simp, fun b hb => h.wf b (by simp at hb; omega), fun _ _ => rfl, fun b hb _ => Below.heap_alloc _ _ _ hb⟩

theorem Mod.drew (h : Mod T w o w1 o1) : Mod T w o w1.drew o1 := ⟨h.os, h.tape, h.output, h.size, h.wf, h.own, h.keep⟩

theorem Mod.drewN (h : Mod T w o w1 o1) (k : Nat) : Mod T w o (w1.drewN k) o1 := ⟨h.os, h.tape, h.output, h.size, h.wf, h.own, h.keep⟩

theorem Mod.setCell (h : Mod T w o w1 o1) (p : Addr) (v : Value) (hp : p.block < w.heap.size → T (o p.block)) : Mod T w o (w1.setCell p v) o1 :=
  ⟨h.os, h.tape, h.output, by simpa using h.size, by simpa using h.wf, h.own, fun b hb hT => by
    rw [Below.heap_setCell _ _ _ _ (fun e => by subst e; exact hT (hp hb))]; exact h.keep b hb hT⟩

theorem Mod.setNew (h : Mod T w o w1 o1) (p : Addr) (v : Value) (hp : w.heap.size ≤ p.block) : Mod T w o (w1.setCell p v) o1 :=
  h.setCell p v (fun hl => absurd hl (by omega))

theorem Mod.cells (h : Mod (fun _ => False) w o w1 o1) : ∀ b i, b < w.heap.size → w1.cell? ⟨b, i, none⟩ = w.cell? ⟨b, i, none⟩ :=
  fun b _ hb => World.cell?_of_block (w := w) (h.keep b hb (fun h => h))
theorem Mod.frozens (h : Mod (fun _ => False) w o w1 o1) : ∀ b i, b < w.heap.size → w1.frozen? ⟨b, i, none⟩ = w.frozen? ⟨b, i, none⟩ :=
  fun b _ hb => World.frozen?_of_block (w := w) (h.keep b hb (fun h => h))
theorem Mod.cellsOf (h : Mod T w o w1 o1) (b : Nat) (hb : b < w.heap.size) (hT : ¬ T (o b)) : ∀ i, w1.cell? ⟨b, i, none⟩ = w.cell? ⟨b, i, none⟩ :=
  fun _ => World.cell?_of_block (w := w) (h.keep b hb hT)

/-- Who owns the block that is made next. -/
def Owner.put (o : Owner) (b t : Nat) : Owner := fun c => if c = b then t else o c

theorem Owner.put_same (o : Owner) (b t : Nat) : o.put b t b = t := by simp [Owner.put]
theorem Owner.put_other (o : Owner) {b c t : Nat} (h : c ≠ b) : o.put b t c = o c := by simp [Owner.put, h]

theorem Mod.allocTo (h : Mod T w o w1 o1) (x : Obj) (t : Nat) : Mod T w o (w1.alloc x) (o1.put w1.heap.size t) :=
  h.trans ⟨rfl, rfl, rfl, by simp, fun b hb => by
      rw [Owner.put_other _ (by simp at hb; omega)]; exact h.wf b (by simp at hb; omega),
    fun b hb => Owner.put_other _ (by omega), fun b hb _ => Below.heap_alloc _ _ _ hb⟩

/-- Behind an append whose row is of owner t, where t may be written. -/
theorem Mod.grown (h : Mod T w o w1 o1) {row : Option Nat} (hg : w1.grownBy w2 row) (hrow : ∀ k, row = some k → k < w.heap.size → T (o k)) (hwf : ∀ b, w2.heap.size ≤ b → o2 b = 0)
    (ho : ∀ b, b < w1.heap.size → o2 b = o1 b) : Mod T w o w2 o2 :=
  ⟨hg.os.trans h.os, hg.tape.trans h.tape, hg.output.trans h.output, Nat.le_trans h.size hg.size, hwf,
   fun b hb => (ho b (Nat.lt_of_lt_of_le hb h.size)).trans (h.own b hb),
   fun b hb hT => (hg.block b (Nat.lt_of_lt_of_le hb h.size) (fun e => hT (hrow b e.symm hb))).trans (h.keep b hb hT)⟩
end

/-- All blocks of owner t are as they were. -/
def KeptAt (t : Nat) (w : World) (o : Owner) (w1 : World) (o1 : Owner) : Prop := ∀ b, b < w.heap.size → o b = t → w1.heap[b]? = w.heap[b]? ∧ o1 b = o b
theorem Mod.keptAt {T : Nat → Prop} {w w1 : World} {o o1 : Owner} {t : Nat} (m : Mod T w o w1 o1) (hT : ¬ T t) : KeptAt t w o w1 o1 := fun b hb ht => ⟨m.keep b hb (by rw [ht]; exact hT), m.own b hb⟩
theorem KeptAt.setCell {w : World} {o : Owner} {t : Nat} (p : Addr) (v : Value) (hp : o p.block ≠ t) : KeptAt t w o (w.setCell p v) o :=
  fun _ _ ht => ⟨Below.heap_setCell _ _ _ _ (fun e => hp (e ▸ ht)), rfl⟩
theorem KeptAt.alloc {w : World} {o : Owner} {t : Nat} (x : Obj) : KeptAt t w o (w.alloc x) o := fun _ hb _ => ⟨Below.heap_alloc _ _ _ hb, rfl⟩
theorem KeptAt.grown {w w1 : World} {o : Owner} {t : Nat} {row : Option Nat} (hg : w.grownBy w1 row) (hr : ∀ k, row = some k → k < w.heap.size → o k ≠ t) : KeptAt t w o w1 o :=
  fun b hb ht => ⟨hg.block b hb (fun e => hr b e.symm hb ht), rfl⟩

/-- A block known whole, no part of it frozen. -/
def Blk (w : World) (b : Nat) (cs : List Value) (e : TypeId) : Prop := w.heap[b]? = some (.cells cs.toArray e (0, 0))

section
variable {w w1 : World} {b : Nat} {cs : List Value} {e : TypeId}
theorem Blk.lt (h : Blk w b cs e) : b < w.heap.size := (Array.getElem?_eq_some_iff.1 h).1
theorem Blk.cell (h : Blk w b cs e) (i : Nat) : w.cell? ⟨b, i, none⟩ = cs[i]? := by
  have h' : w.heap[b]? = _ := h
  simp [World.cell?, h']
theorem Blk.c (h : Blk w b cs e) (i : Nat) (v : Value) (hi : cs[i]? = some v) : w.cell? ⟨b, i, none⟩ = some v := (h.cell i).trans hi
theorem Blk.frozen (h : Blk w b cs e) (i : Nat) : w.frozen? ⟨b, i, none⟩ = false := by
  have h' : w.heap[b]? = _ := h
  simp [World.frozen?, h']
theorem Blk.to (h : Blk w b cs e) (hk : w1.heap[b]? = w.heap[b]?) : Blk w1 b cs e := hk.trans h
theorem Blk.alloc (h : Blk w b cs e) (x : Obj) : Blk (w.alloc x) b cs e := h.to (Below.heap_alloc _ _ _ h.lt)
theorem Blk.drew (h : Blk w b cs e) : Blk w.drew b cs e := h
theorem Blk.other (h : Blk w b cs e) (p : Addr) (v : Value) (hp : b ≠ p.block) : Blk (w.setCell p v) b cs e := h.to (Below.heap_setCell _ _ _ _ hp)
theorem Blk.set (h : Blk w b cs e) (i : Nat) (v : Value) : Blk (w.setCell ⟨b, i, none⟩ v) b (cs.set i v) e := by
  have h' : w.heap[b]? = _ := h
  simp [Blk, World.setCell, Array.getElem?_modify, h']
theorem Blk.new (w : World) (cs : List Value) (e : TypeId) : Blk (w.alloc (.cells cs.toArray e)) w.heap.size cs e := by
  show (w.heap.push _)[w.heap.size]? = _
  simp
theorem Blk.kept {T : Nat → Prop} {o o1 : Owner} (h : Blk w b cs e) (m : Mod T w o w1 o1) (hT : ¬ T (o b)) : Blk w1 b cs e := h.to (m.keep b h.lt hT)
theorem Blk.grown {row : Option Nat} (h : Blk w b cs e) (hg : w.grownBy w1 row) (hne : ∀ k, row = some k → k ≠ b) : Blk w1 b cs e := h.to (hg.block b h.lt (fun e => hne b e.symm rfl))
theorem Blk.inj (h : Blk w b cs e) {cs' : List Value} {e' : TypeId} (h' : Blk w b cs' e') : cs = cs' ∧ e = e' := by
  have h2 : some (Obj.cells cs.toArray e (0,0)) = some (Obj.cells cs'.toArray e' (0,0)) := h.symm.trans h'
  simp at h2; exact h2
end

section
variable {w : World} {b : Nat} {e : TypeId} {x0 x1 x2 x3 x4 x5 : Value}
theorem Blk.two (h : Blk w b [x0, x1] e) : w.cell? ⟨b, 0, none⟩ = some x0 ∧ w.cell? ⟨b, 1, none⟩ = some x1 ∧ ∀ i, w.frozen? ⟨b, i, none⟩ = false :=
  ⟨h.c 0 _ rfl, h.c 1 _ rfl, h.frozen⟩
theorem Blk.three (h : Blk w b [x0, x1, x2] e) : w.cell? ⟨b, 0, none⟩ = some x0 ∧ w.cell? ⟨b, 1, none⟩ = some x1 ∧ w.cell? ⟨b, 2, none⟩ = some x2 ∧ ∀ i, w.frozen? ⟨b, i, none⟩ = false :=
  ⟨h.c 0 _ rfl, h.c 1 _ rfl, h.c 2 _ rfl, h.frozen⟩
theorem Blk.six (h : Blk w b [x0, x1, x2, x3, x4, x5] e) : w.cell? ⟨b, 0, none⟩ = some x0 ∧ w.cell? ⟨b, 1, none⟩ = some x1 ∧ w.cell? ⟨b, 2, none⟩ = some x2 ∧ w.cell? ⟨b, 3, none⟩ = some x3 ∧
    w.cell? ⟨b, 4, none⟩ = some x4 ∧ w.cell? ⟨b, 5, none⟩ = some x5 ∧ ∀ i, w.frozen? ⟨b, i, none⟩ = false :=
  ⟨h.c 0 _ rfl, h.c 1 _ rfl, h.c 2 _ rfl, h.c 3 _ rfl, h.c 4 _ rfl, h.c 5 _ rfl, h.frozen⟩
end

/-- A slice that has a block of its own, of owner t: n elements of so many cells each. -/
def Row (w : World) (o : Owner) (t : Nat) (e : TypeId) (size : Nat) (v : Value) (n : Nat) (xs : List Value) : Prop :=
  w.ownsRow 0 e size v n xs ∧ ∀ k, v.ownBlock = some k → o k = t

section
variable {w w1 : World} {o o1 : Owner} {t : Nat} {e : TypeId} {size : Nat} {v : Value} {n : Nat} {xs : List Value}
theorem Row.nil (w : World) (o : Owner) (t : Nat) (e : TypeId) (size : Nat) : Row w o t e size (.slice none 0 0) 0 [] :=
  ⟨World.ownsRow_nil w 0 e size, fun k h => by simp [Value.ownBlock] at h⟩
theorem Row.to (h : Row w o t e size v n xs) (hk : ∀ k, v.ownBlock = some k → k < w.heap.size → w1.heap[k]? = w.heap[k]? ∧ o1 k = o k) : Row w1 o1 t e size v n xs := by
  refine ⟨⟨h.1.1, ?_⟩, fun k hk' => ((hk k hk' (h.1.lt k hk').2).2).trans (h.2 k hk')⟩
  rcases h.1.2 with hn | ⟨g, cap, cur, hv, hb, hg, r⟩
  · exact .inl hn
  · exact .inr ⟨g, cap, cur, hv, hb, ((hk g (by rw [hv]; rfl) (Array.getElem?_eq_some_iff.1 hg).1).1).trans hg, r⟩
theorem Row.kept {T : Nat → Prop} (h : Row w o t e size v n xs) (m : Mod T w o w1 o1) (hT : ¬ T t) : Row w1 o1 t e size v n xs :=
  h.to fun k hk hlt => ⟨m.keep k hlt (by rw [h.2 k hk]; exact hT), m.own k hlt⟩
theorem Row.cells (h : Row w o t e size v n xs) {a : Addr} {m c : Nat} (hv : v = .slice (some a) m c) : ∀ j u, xs[j]? = some u → w.cell? (a.add j) = some u := by
  intro j u hu
  rcases h.1.2 with ⟨rfl, _⟩ | ⟨g', cap, cur, rfl, _⟩
  · cases hv
  · cases hv
    exact h.1.cells rfl j u hu
theorem Row.other (h : Row w o t e size v n xs) (p : Addr) (x : Value) (hp : ∀ k, v.ownBlock = some k → k ≠ p.block) : Row (w.setCell p x) o t e size v n xs :=
  h.to fun k hk _ => ⟨Below.heap_setCell _ _ _ _ (hp k hk), rfl⟩
theorem Row.alloc (h : Row w o t e size v n xs) (x : Obj) : Row (w.alloc x) o t e size v n xs :=
  h.to fun _ _ hlt => ⟨Below.heap_alloc _ _ _ hlt, rfl⟩
theorem Row.drew (h : Row w o t e size v n xs) : Row w.drew o t e size v n xs := h.to fun _ _ _ => ⟨rfl, rfl⟩
theorem Row.len (h : Row w o t e size v n xs) : ∃ a c, v = .slice a n c ∧ n ≤ c := by
  rcases h.1.2 with ⟨rfl, rfl⟩ | ⟨g, cap, cur, rfl, _, _, hle, _⟩
  · exact ⟨_, _, rfl, Nat.le_refl _⟩
  · exact ⟨_, _, rfl, hle⟩
/-- A new block of no cells, owned by t. -/
theorem Row.empty (w : World) (o : Owner) (t : Nat) (e : TypeId) (size : Nat) : Row (w.alloc (.cells #[] e)) (o.put w.heap.size t) t e size (.slice (some ⟨w.heap.size, 0, none⟩) 0 0) 0 [] :=
  ⟨World.ownsRow_made w #[] 0 (Nat.zero_le _) (Nat.zero_le _) (by simp), fun k hk => by simp [Value.ownBlock] at hk; subst hk; exact Owner.put_same _ _ _⟩
theorem Row.cut (h : Row w o t e size v n xs) {a : Option Addr} {c : Nat} (hv : v = .slice a n c) (k : Nat) (hk : k ≤ n) : Row w o t e size (.slice a k c) k (xs.take (k * size)) := by
  have hlen := h.1.1
  refine ⟨⟨?_, ?_⟩, fun b hb => h.2 b (by rw [hv]; cases a <;> exact hb)⟩
  · rw [List.length_take, hlen]; exact Nat.min_eq_left (Nat.mul_le_mul_right _ hk)
  · rcases h.1.2 with ⟨h1, h2⟩ | ⟨g, cap, cur, h1, h2, h3, h4, h5, h6, h7⟩
    · rw [hv] at h1; cases h1
      exact .inl ⟨by congr 1; omega, by omega⟩
    · rw [hv] at h1; cases h1
      refine .inr ⟨g, c, cur, rfl, h2, h3, by omega, h5, h6, ?_⟩
      rw [← h7, List.take_take, Nat.min_eq_left (Nat.mul_le_mul_right _ hk)]
theorem Row.grown (h : Row w o t e size v n xs) {row : Option Nat} (hg : w.grownBy w1 row) (hne : ∀ k, v.ownBlock = some k → row ≠ some k) (ho : ∀ b, b < w.heap.size → o1 b = o b) : Row w1 o1 t e size v n xs :=
  h.to fun k hk hlt => ⟨hg.block k hlt (fun e => hne k hk e.symm), ho k hlt⟩
theorem Row.apart (h : Row w o t e size v n xs) {o' : Owner} {t' : Nat} {e' : TypeId} {size' : Nat} {v' : Value} {n' : Nat} {xs' : List Value} (h' : Row w o' t' e' size' v' n' xs') (he : e ≠ e') : ∀ k, v.ownBlock = some k → v'.ownBlock ≠ some k := by
  intro k hk hk'
  rcases h.1.2 with ⟨rfl, _⟩ | ⟨g, cap, cur, rfl, _, hg, _⟩
  · simp [Value.ownBlock] at hk
  · simp [Value.ownBlock] at hk
    subst hk
    rcases h'.1.2 with ⟨rfl, _⟩ | ⟨g', cap', cur', rfl, _, hg', _⟩
    · simp [Value.ownBlock] at hk'
    · simp [Value.ownBlock] at hk'
      subst hk'
      rw [hg] at hg'; simp at hg'; exact he hg'.2
theorem Row.ne (h : Row w o t e size v n xs) {b : Nat} {cs : List Value} {e' : TypeId} (hb : Blk w b cs e') (he : e' ≠ e) : ∀ k, v.ownBlock = some k → k ≠ b := by
  intro k hk hkb
  subst hkb
  rcases h.1.2 with ⟨rfl, _⟩ | ⟨g, cap, cur, rfl, _, hg, _⟩
  · simp [Value.ownBlock] at hk
  · simp [Value.ownBlock] at hk
    subst hk
    have h2 : some (Obj.cells cur e (0,0)) = some (Obj.cells cs.toArray e' (0,0)) := hg.symm.trans hb
    simp at h2; exact he h2.2.symm
end

/-- max and min of two, as plain names: the walk does not part on them. -/
def imax (x y : Int) : Int := if y > x then y else x
def imin (x y : Int) : Int := if y < x then y else x
theorem imax_eq (x y : Int) : imax x y = max x y := by unfold imax; omega
theorem imin_eq (x y : Int) : imin x y = min x y := by unfold imin; omega
section
variable {P : Program} {w : World}
theorem run_imax (ts : Array TypeId) (t : TypeId) (k k' : IntKind) (x y : Int) : (Builtin.max_ ts t #[.int k x, .int k' y]).run P w = .ok (.int k (imax x y)) w := run_max_int2 w ts t k k' x y
theorem run_imin (ts : Array TypeId) (t : TypeId) (k k' : IntKind) (x y : Int) : (Builtin.min_ ts t #[.int k x, .int k' y]).run P w = .ok (.int k (imin x y)) w := run_min_int2 w ts t k k' x y
end
attribute [go_sem high] run_imax run_imin

/-- Where a slice of a slice begins. (Kept from the walk: a plain name.) -/
def subA (a : Option Addr) (l c size : Nat) : Option Addr := if c = l then a else a.map (·.add (l * size))

section
variable {P : Program} {w : World} {t : TypeId} {a : Option Addr} {len cap : Nat}
theorem run_sub_lh (ht : P.underlying t = some (.slice (P.elem t))) (kl kh : IntKind) (l h : Int) (h0 : 0 ≤ l) (h1 : l ≤ h) (h2 : h ≤ cap) :
    (Instr.slice t (.slice a len cap) (some (.int kl l)) (some (.int kh h)) none).run P w =
      ((sizeOf (P.elem t)).run P w).andThen fun s w => .ok (.slice (subA a l.toNat cap s) (h.toNat - l.toNat) (cap - l.toNat)) w := run_slice_lh w t a len cap ht kl kh l h h0 h1 h2
theorem run_sub_l (ht : P.underlying t = some (.slice (P.elem t))) (kl : IntKind) (l : Int) (h0 : 0 ≤ l) (h1 : l ≤ len) :
    (Instr.slice t (.slice a len cap) (some (.int kl l)) none none).run P w =
      ((sizeOf (P.elem t)).run P w).andThen fun s w => .ok (.slice (subA a l.toNat cap s) (len - l.toNat) (cap - l.toNat)) w := run_slice_l w t a len cap ht kl l h0 h1
theorem run_sub_any (ht : P.underlying t = some (.slice (P.elem t))) (lo : Value) (hi mx : Option Value) :
    (Instr.slice t (.slice a len cap) (some lo) hi mx).run P w =
      ((Instr.sliceBounds true len cap (some lo) hi mx).run P w).andThen fun b w => ((sizeOf (P.elem t)).run P w).andThen fun s w => .ok (.slice (subA a b.1 b.2.2 s) (b.2.1 - b.1) (b.2.2 - b.1)) w := run_slice_any w t a len cap ht (some lo) hi mx
end
attribute [go_sem high] run_sub_lh run_sub_l
attribute [go_sem] run_sub_any

/-- A slice that reads as these cells: n elements of so many cells each; its block is of owner t. -/
def Rd (w : World) (o : Owner) (t : Nat) (size : Nat) (v : Value) (n : Nat) (xs : List Value) : Prop :=
  xs.length = n * size ∧ ((v = .slice none 0 0 ∧ n = 0) ∨ ∃ a c, v = .slice (some a) n c ∧ n ≤ c ∧ c ≤ maxLen ∧ (0 < n → o a.block = t ∧ a.block < w.heap.size) ∧ ∀ j u, xs[j]? = some u → w.cell? (a.add j) = some u)

theorem Addr.add_block (a : Addr) (j : Nat) : (a.add j).block = a.block := by unfold Addr.add; split <;> rfl

section
variable {w w1 : World} {o o1 : Owner} {t : Nat} {e : TypeId} {size : Nat} {v : Value} {n : Nat} {xs : List Value}
theorem Rd.nil (w : World) (o : Owner) (t size : Nat) : Rd w o t size (.slice none 0 0) 0 [] := ⟨by simp, .inl ⟨rfl, rfl⟩⟩
theorem Rd.to (h : Rd w o t size v n xs) (hs : w.heap.size ≤ w1.heap.size) (hk : ∀ b, b < w.heap.size → o b = t → w1.heap[b]? = w.heap[b]? ∧ o1 b = o b) : Rd w1 o1 t size v n xs := by
  refine ⟨h.1, ?_⟩
  rcases h.2 with hn | ⟨a, c, hv, h1, h2, h3, h5⟩
  · exact .inl hn
  · refine .inr ⟨a, c, hv, h1, h2, fun hn => ⟨((hk _ (h3 hn).2 (h3 hn).1).2).trans (h3 hn).1, by have := (h3 hn).2; omega⟩, fun j u hu => ?_⟩
    have hn : 0 < n := by
      rcases Nat.eq_zero_or_pos n with h0 | h0
      · have h1 := h.1; rw [h0, Nat.zero_mul] at h1; rw [List.length_eq_zero_iff.1 h1] at hu; simp at hu
      · exact h0
    rw [World.cell?_of_block (w := w) (by rw [Addr.add_block]; exact (hk _ (h3 hn).2 (h3 hn).1).1)]
    exact h5 j u hu
theorem Rd.kept {T : Nat → Prop} (h : Rd w o t size v n xs) (m : Mod T w o w1 o1) (hT : ¬ T t) : Rd w1 o1 t size v n xs :=
  h.to m.size fun b hb hbt => ⟨m.keep b hb (by rw [hbt]; exact hT), m.own b hb⟩
theorem Rd.alloc (h : Rd w o t size v n xs) (x : Obj) : Rd (w.alloc x) o t size v n xs := h.to (by simp) fun _ hb _ => ⟨Below.heap_alloc _ _ _ hb, rfl⟩
theorem Rd.drew (h : Rd w o t size v n xs) : Rd w.drew o t size v n xs := h.to (Nat.le_refl _) fun _ _ _ => ⟨rfl, rfl⟩
theorem Rd.len (h : Rd w o t size v n xs) : ∃ a c, v = .slice a n c ∧ n ≤ maxLen := by
  rcases h.2 with ⟨rfl, rfl⟩ | ⟨a, c, rfl, h1, h2, _⟩
  · exact ⟨_, _, rfl, by unfold maxLen; omega⟩
  · exact ⟨_, _, rfl, by omega⟩
theorem Row.rd (h : Row w o t e size v n xs) : Rd w o t size v n xs := by
  refine ⟨h.1.1, ?_⟩
  rcases h.1.2 with hn | ⟨g, cap, cur, rfl, _, hg, h1, h2, _⟩
  · exact .inl hn
  · exact .inr ⟨_, _, rfl, h1, h2, fun _ => ⟨h.2 g rfl, (Array.getElem?_eq_some_iff.1 hg).1⟩, h.cells rfl⟩
theorem Rd.sub (h : Rd w o t size v n xs) {a : Option Addr} {c : Nat} (hv : v = .slice a n c) (l k : Nat) (hl : l ≤ k) (hk : k ≤ n) :
    Rd w o t size (.slice (subA a l c size) (k - l) (c - l)) (k - l) ((xs.drop (l * size)).take ((k - l) * size)) := by
  have hlen := h.1
  unfold subA
  refine ⟨?_, ?_⟩
  · rw [List.length_take, List.length_drop, hlen, ← Nat.sub_mul]
    exact Nat.min_eq_left (Nat.mul_le_mul_right _ (by omega))
  · rcases h.2 with ⟨h1, h2⟩ | ⟨a', c', h1, h2, h3, h4, h5⟩
    · rw [hv] at h1; cases h1
      left; constructor
      · have : l = 0 := by omega
        subst this
        have : k = 0 := by omega
        subst this; simp
      · omega
    · rw [hv] at h1; cases h1
      right
      refine ⟨if c = l then a' else a'.add (l * size), c - l, ?_, by omega, by omega, fun hlt => ?_, ?_⟩
      · split <;> rfl
      · obtain ⟨h6, h7⟩ := h4 (by omega)
        split
        · exact ⟨h6, h7⟩
        · rw [Addr.add_block]; exact ⟨h6, h7⟩
      · intro j u hu
        rw [List.getElem?_take] at hu
        split at hu
        · rename_i hj
          rw [List.getElem?_drop] at hu
          have hne : c ≠ l := by
            intro e
            have : k - l = 0 := by omega
            rw [this, Nat.zero_mul] at hj
            omega
          rw [if_neg hne]
          have := h5 _ _ hu
          have e : (a'.add (l * size)).add j = a'.add (l * size + j) := by
            unfold Addr.add
            by_cases h0 : l * size = 0
            · simp [h0]
            · by_cases h1 : j = 0
              · simp [h0, h1]
              · simp [h0, h1, Nat.add_assoc]
          rw [e]; exact this
        · cases hu
theorem Rd.setFar (h : Rd w o t size v n xs) {p : Addr} (x : Value) (hp : ∀ b, b < w.heap.size → o b = t → b ≠ p.block) : Rd (w.setCell p x) o t size v n xs :=
  h.to (by simp) fun b hb ht => ⟨Below.heap_setCell _ _ _ _ (hp b hb ht), rfl⟩
/-- A new block of a literal. -/
theorem Rd.new (w : World) (o : Owner) (cs : List Value) (e : TypeId) (n : Nat) (hl : cs.length = n * size) (hm : n ≤ maxLen) (hwf : Wf w o) : Rd (w.alloc (.cells cs.toArray e)) o 0 size (.slice (some ⟨w.heap.size, 0, none⟩) n n) n cs := by
  refine ⟨hl, .inr ⟨_, _, rfl, Nat.le_refl _, hm, fun _ => ⟨hwf _ (Nat.le_refl _), by simp⟩, fun j u hu => ?_⟩⟩
  rw [Addr.add_lit, Nat.zero_add, (Blk.new w cs e).cell]; exact hu
end

section
variable {P : Program} (w : World)
/-- append, from whatever slice, onto one that has a block of its own. -/
theorem run_append_row (t ty e : TypeId) (i : TypeInfo) (z : Value) (size bytes : Nat) (ht : P.underlying t = some (.slice e)) (hi : P.info? e = some i) (hz : i.zero = some z)
    (hsize : i.size = size) (hby : i.bytes = bytes) (hzs : z.cells.size = size) (hsz : 0 < size) (o : Owner) (g : Nat) (hwf : Wf w o)
    (v : Value) (n : Nat) (xs : List Value) (hrow : Row w o g e size v n xs) (y : Value) (m : Nat) (news : List Value) (o2 : Owner) (t2 : Nat) (hy : Rd w o2 t2 size y m news) (h1 : ∀ u ∈ news, u.oneCell' = true)
    (h63 : n + m ≤ maxLen) (hbytes : (n + m) * bytes ≤ 140737488355328) :
    ∃ v' w' o', (Builtin.append_ #[t, t] ty #[v, y]).run P w = .ok v' w' ∧ Row w' o' g e size v' (n + m) (xs ++ news) ∧ Mod (· = g) w o w' o' ∧ w.grownBy w' v.ownBlock ∧ (v'.ownBlock = v.ownBlock ∨ v'.ownBlock = some w.heap.size) := by
  rcases hy.2 with ⟨rfl, rfl⟩ | ⟨a, c, rfl, _, _, _, hc⟩
  · have hn : news = [] := List.length_eq_zero_iff.1 (by rw [hy.1]; omega)
    subst hn
    exact ⟨v, w, o, run_append_owned_none w 0 t ty e i size ht hi v n xs hrow.1, by simpa using hrow, Mod.refl _ hwf, ⟨rfl, rfl, rfl, Nat.le_refl _, fun _ _ _ => rfl⟩, .inl rfl⟩
  · obtain ⟨v', w', hr, hown, hg, _, hb⟩ := run_append_own_at (P := P) w 0 t ty e i z size bytes ht hi hz hsize hby hzs hsz v n xs hrow.1 a m c news hy.1 hc h1 h63 hbytes (Nat.zero_le _)
    refine ⟨v', w', fun b => if some b = v'.ownBlock then g else o b, hr, ⟨hown, fun k hk => by simp [hk]⟩, ?_, hg, hb⟩
    refine (Mod.refl _ hwf).grown hg (fun k hk _ => hrow.2 k hk) ?_ ?_
    · intro b hb'
      have : some b ≠ v'.ownBlock := fun e => by have := (hown.lt b e.symm).2; omega
      simp only [this, if_false]
      exact hwf b (by have := hg.size; omega)
    · intro b hb'
      by_cases e : some b = v'.ownBlock
      · simp only [e, if_true]
        rcases hb with hb | hb
        · exact (hrow.2 b (by rw [← hb, ← e])).symm
        · rw [hb] at e; cases e; omega
      · simp only [e, if_false]

/-- A slice's type, its element's: so many cells, so many bytes. -/
structure El (P : Program) (t e : TypeId) (size bytes : Nat) : Prop where
  under : P.underlying t = some (.slice e)
  info : ∃ i z, P.info? e = some i ∧ i.zero = some z ∧ i.size = size ∧ i.bytes = bytes ∧ z.cells.size = size
  pos : 0 < size

theorem El.mk' {P : Program} {t e : TypeId} {size bytes : Nat} {z : Value} (h : P.underlying t = some (.slice e)) (hi : (P.info? e).map (fun i => (i.zero, i.size, i.bytes)) = some (some z, size, bytes)) (hz : z.cells.size = size) (hp : 0 < size) : El P t e size bytes := by
  obtain ⟨i0, h1, h2, h3, h4⟩ := info_parts hi
  exact ⟨h, ⟨i0, z, h1, h2, h3, h4, hz⟩, hp⟩

theorem one_map {α : Type} (f : α → Value) (h : ∀ x, (f x).oneCell' = true) (l : List α) : ∀ u ∈ l.map f, u.oneCell' = true := by
  intro u hu; obtain ⟨x, _, rfl⟩ := List.mem_map.1 hu; exact h x

theorem wpList_append_row {ops : Array Oper} {rest : List Oper} {op : Oper} {a : Act} {Q : Exit → Act → World → Prop} {w : World} {t e : TypeId} {size bytes : Nat} (el : El P t e size bytes) {s x : Operand}
    (hgd : op.guard = none) (ho : op.op = .call { callee := .builtin .append, args := #[s, x], argTypes := #[t, t] })
    {o : Owner} {g : Nat} (hwf : Wf w o)
    {v : Value} {n : Nat} {xs : List Value} (hs : a.eval s = v) (hrow : Row w o g e size v n xs) {y : Value} {m : Nat} {news : List Value} (hx : a.eval x = y) {o2 : Owner} {t2 : Nat} (hy : Rd w o2 t2 size y m news) (h1 : ∀ u ∈ news, u.oneCell' = true)
    (h63 : n + m ≤ maxLen) (hbytes : (n + m) * bytes ≤ 140737488355328)
    (h : ∀ v' w' o', Row w' o' g e size v' (n + m) (xs ++ news) → Mod (· = g) w o w' o' → w.grownBy w' v.ownBlock → (v'.ownBlock = v.ownBlock ∨ v'.ownBlock = some w.heap.size) → wpList P ops Q rest (a.put op.dst v') w') :
    wpList P ops Q (op :: rest) a w := by
  refine wpList_plain hgd fun K hK => ?_
  obtain ⟨i, z, hi, hz, hsize, hby, hzs⟩ := el.info
  obtain ⟨v', w', o', hr, h2, h3, h4, h5⟩ := run_append_row (P := P) w t op.type e i z size bytes el.under hi hz hsize hby hzs el.pos o g hwf v n xs hrow y m news o2 t2 hy h1 h63 hbytes
  unfold Oper.wp execOp
  simp only [ho, resolve, invoke, builtin, Sem.run_bind, Sem.run_pure, Result.andThen_ok, List.map_toArray, List.map_cons, List.map_nil, hs, hx, hr]
  exact hK _ _ (h v' w' o' h2 h3 h4 h5)

/-- The same, at a step of a region that draws its order. -/
theorem step_append_row {ops : Array Oper} {op : Oper} {a : Act} {K : Act → World → Prop} {Q : Exit → Act → World → Prop} {E : Prop} {w : World} {t e : TypeId} {size bytes : Nat} (el : El P t e size bytes) {s x : Operand}
    (hgd : op.guard = none) (ho : op.op = .call { callee := .builtin .append, args := #[s, x], argTypes := #[t, t] })
    {o : Owner} {g : Nat} (hwf : Wf w o)
    {v : Value} {n : Nat} {xs : List Value} (hs : a.eval s = v) (hrow : Row w o g e size v n xs) {y : Value} {m : Nat} {news : List Value} (hx : a.eval x = y) {o2 : Owner} {t2 : Nat} (hy : Rd w o2 t2 size y m news) (h1 : ∀ u ∈ news, u.oneCell' = true)
    (h63 : n + m ≤ maxLen) (hbytes : (n + m) * bytes ≤ 140737488355328)
    (h : ∀ v' w' o', Row w' o' g e size v' (n + m) (xs ++ news) → Mod (· = g) w o w' o' → w.grownBy w' v.ownBlock → (v'.ownBlock = v.ownBlock ∨ v'.ownBlock = some w.heap.size) → K (a.put op.dst v') w') :
    if Region.wanted op (yielded ops a.tmps) = true then Oper.wp P op a w K Q else E := by
  have hw : Region.wanted op (yielded ops a.tmps) = true := by simp [Region.wanted, hgd]
  rw [if_pos hw]
  obtain ⟨i, z, hi, hz, hsize, hby, hzs⟩ := el.info
  obtain ⟨v', w', o', hr, h2, h3, h4, h5⟩ := run_append_row (P := P) w t op.type e i z size bytes el.under hi hz hsize hby hzs el.pos o g hwf v n xs hrow y m news o2 t2 hy h1 h63 hbytes
  unfold Oper.wp execOp
  simp only [ho, resolve, invoke, builtin, Sem.run_bind, Sem.run_pure, Result.andThen_ok, List.map_toArray, List.map_cons, List.map_nil, hs, hx, hr]
  exact h v' w' o' h2 h3 h4 h5
end

end Go.Rh
