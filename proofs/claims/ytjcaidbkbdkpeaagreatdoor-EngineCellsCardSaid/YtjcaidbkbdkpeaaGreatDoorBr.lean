/- The definition that asks cells one by one: what it is, and where it goes. -/
import Derived.Test.YtjcaidbkbdkpeaaGreatDoorGoes
import Derived.Test.YtjcaidbkbdkpeaaGreatDoorMay
namespace Go.Proofs.YtjcaidbkbdkpeaaGreatDoor
open Go Go.RowKit Go.Rh

def brBlk (i at_ : Nat) (c : Int) : List In1 :=
  if i % 2 = 0 then [⟨1, 0, c⟩, ⟨4, (at_ : Int) + 4, 0⟩, ⟨1, 0, 7⟩, ⟨3, (at_ : Int) + 5, 0⟩, ⟨1, 0, 9⟩]
  else [⟨1, 0, c⟩, ⟨1, 0, 0⟩, ⟨10, (at_ : Int) + 5, 0⟩, ⟨1, 0, 9⟩, ⟨3, (at_ : Int) + 7, 0⟩, ⟨11, 0, 0⟩, ⟨1, 0, 7⟩]

/-- The instructions of the first j cells. -/
def brCode (l : List Int) : Nat → List In1
  | 0 => []
  | j + 1 => brCode l j ++ brBlk j (brCode l j).length (l.getD j 0)

/-- What they leave. -/
def brWant (l : List Int) : Nat → List Int
  | 0 => []
  | j + 1 => brWant l j ++ [if l.getD j 0 = 0 then 9 else 7]

theorem brBlk_length (i a : Nat) (c : Int) : (brBlk i a c).length ≤ 7 := by unfold brBlk; split <;> simp
theorem brCode_length (l : List Int) : ∀ j, (brCode l j).length ≤ 7 * j
  | 0 => by simp [brCode]
  | j + 1 => by have h := brCode_length l j; have h2 := brBlk_length j (brCode l j).length (l.getD j 0); simp only [brCode, List.length_append]; omega
theorem brWant_length (l : List Int) : ∀ j, (brWant l j).length = j
  | 0 => rfl
  | j + 1 => by simp [brWant, brWant_length l j]

/-- An instruction that goes on within the first n, or just behind them. -/
structure InOk (n k : Nat) (i : In1) : Prop where
  op : i.op = 1 ∨ i.op = 3 ∨ i.op = 4 ∨ i.op = 10 ∨ i.op = 11
  next : k + 1 ≤ n
  place : (i.op = 3 ∨ i.op = 4 ∨ i.op = 10) → 0 ≤ i.a ∧ i.a ≤ n
  zero : (i.op = 1 ∨ i.op = 11 ∨ i.op = 15) → i.a = 0
  cell : i.op ≠ 1 → i.x = 0

theorem InOk.mono {n m k : Nat} {i : In1} (h : InOk n k i) (hm : n ≤ m) : InOk m k i :=
  ⟨h.op, Nat.le_trans h.next hm, fun q => ⟨(h.place q).1, by have := (h.place q).2; omega⟩, h.zero, h.cell⟩

theorem brBlk_ok (i a : Nat) (c : Int) (t : Nat) (x : In1) (hx : (brBlk i a c)[t]? = some x) : InOk (a + (brBlk i a c).length) (a + t) x := by
  have ht : t < (brBlk i a c).length := (List.getElem?_eq_some_iff.1 hx).1
  by_cases hi : i % 2 = 0
  · have hb : brBlk i a c = [⟨1, 0, c⟩, ⟨4, (a : Int) + 4, 0⟩, ⟨1, 0, 7⟩, ⟨3, (a : Int) + 5, 0⟩, ⟨1, 0, 9⟩] := if_pos hi
    rw [hb] at hx ht ⊢
    simp only [List.length_cons, List.length_nil] at ht ⊢
    have h5 : t = 0 ∨ t = 1 ∨ t = 2 ∨ t = 3 ∨ t = 4 := by omega
    rcases h5 with rfl | rfl | rfl | rfl | rfl <;> (simp at hx; subst hx; constructor <;> simp <;> omega)
  · have hb : brBlk i a c = [⟨1, 0, c⟩, ⟨1, 0, 0⟩, ⟨10, (a : Int) + 5, 0⟩, ⟨1, 0, 9⟩, ⟨3, (a : Int) + 7, 0⟩, ⟨11, 0, 0⟩, ⟨1, 0, 7⟩] := if_neg hi
    rw [hb] at hx ht ⊢
    simp only [List.length_cons, List.length_nil] at ht ⊢
    have h5 : t = 0 ∨ t = 1 ∨ t = 2 ∨ t = 3 ∨ t = 4 ∨ t = 5 ∨ t = 6 := by omega
    rcases h5 with rfl | rfl | rfl | rfl | rfl | rfl | rfl <;> (simp at hx; subst hx; constructor <;> simp <;> omega)

theorem brCode_ok (l : List Int) : ∀ (j k : Nat) (x : In1), (brCode l j)[k]? = some x → InOk (brCode l j).length k x
  | 0, k, x, h => by simp [brCode] at h
  | j + 1, k, x, h => by
    simp only [brCode] at h ⊢
    rw [List.length_append]
    by_cases hk : k < (brCode l j).length
    · rw [List.getElem?_append_left hk] at h
      exact (brCode_ok l j k x h).mono (by omega)
    · rw [List.getElem?_append_right (by omega)] at h
      have := brBlk_ok j (brCode l j).length (l.getD j 0) _ x h
      rwa [show (brCode l j).length + (k - (brCode l j).length) = k by omega] at this

def brDef (l : List Int) (n : Nat) : List In1 := brCode l n ++ [⟨15, 0, 0⟩]

theorem brDef_plain (l : List Int) (n words : Nat) (hn : n ≤ 20) : PlainDef (brDef l n) words := by
  have hlen := brCode_length l n
  have hl : (brDef l n).length = (brCode l n).length + 1 := by simp [brDef]
  have hin : ∀ k x, (brDef l n)[k]? = some x → InOk (brCode l n).length k x ∨ (x = ⟨15, 0, 0⟩) := by
    intro k x hx
    by_cases hk : k < (brCode l n).length
    · unfold brDef at hx
      rw [List.getElem?_append_left hk] at hx
      exact .inl (brCode_ok l n k x hx)
    · unfold brDef at hx
      rw [List.getElem?_append_right (by omega)] at hx
      have h0 : k - (brCode l n).length < [(⟨15, 0, 0⟩ : In1)].length := (List.getElem?_eq_some_iff.1 hx).1
      simp at h0
      have h1 : k - (brCode l n).length = 0 := by omega
      rw [h1] at hx; simp at hx
      exact .inr hx.symm
  have hmem : ∀ x ∈ brDef l n, (∃ k, InOk (brCode l n).length k x) ∨ x = ⟨15, 0, 0⟩ := by
    intro x hx
    obtain ⟨k, hk⟩ := List.mem_iff_getElem?.1 hx
    rcases hin k x hk with h | h
    · exact .inl ⟨k, h⟩
    · exact .inr h
  refine ⟨by omega, by omega, ?_, ?_, ?_, ?_, ?_, ?_, ?_⟩
  · intro x hx
    rcases hmem x hx with ⟨k, h⟩ | rfl
    · have := h.op; unfold Plain; omega
    · unfold Plain; simp
  · intro k x hx t ht
    rcases hin k x hx with h | rfl
    · have hn1 := h.next
      have hop := h.op
      rw [hl]
      unfold nexts at ht
      split at ht
      · simp at ht
      · split at ht
        · rename_i h3
          simp at ht; subst ht
          have := h.place (.inl h3); omega
        · split at ht
          · rename_i h3
            have := h.place (.inr h3)
            simp at ht; omega
          · simp at ht; omega
    · simp [nexts] at ht
  · intro x hx h2
    rcases hmem x hx with ⟨k, h⟩ | rfl
    · have := h.op; omega
    · simp at h2
  · intro x hx h2
    rcases hmem x hx with ⟨k, h⟩ | rfl
    · have := h.place h2; omega
    · simp at h2
  · intro x hx h2
    rcases hmem x hx with ⟨k, h⟩ | rfl
    · exact h.zero h2
    · rfl
  · intro x hx h2
    rcases hmem x hx with ⟨k, h⟩ | rfl
    · exact h.cell h2
    · rfl
  · rw [hl, Nat.add_sub_cancel]; simp [brDef]

/-- An engine that is in the definition. -/
structure BrAt (E : Eng) (d : List In1) : Prop where
  next : E.c.next = 0
  def_ : E.c.def_ = 1
  code : E.c.code = encI d
  ends : E.c.ends = [((encI d).length : Int)]
  fs : E.fs = [⟨1, 0, 0, 0, 0, []⟩]

theorem BrAt.at {E : Eng} {d : List In1} (h : BrAt E d) {i : Nat} {op a x : Int} (hi : d[i]? = some ⟨op, a, x⟩) (h0 : 0 ≤ op) (h1 : op < 256) (h2 : 0 ≤ a) (h3 : a ≤ 100000) : AtI E 0 i op a x :=
  ⟨h.next, by rw [h.def_]; rfl, insAt_first E.c d h.code h.ends hi h0 h1 h2 h3, [], _, by rw [h.fs]; rfl, by simp, by simp, by simp, by simp⟩

theorem br_one {k : Nat} {h : Hd} {E : Eng} {d : List In1} (hE : BrAt E d) (i c0 : Nat) (c : Int) (hc0 : c0 ≤ 140) (hd : ∀ t, t < (brBlk i c0 c).length → d[c0 + t]? = (brBlk i c0 c)[t]?) (st : List Int) (hst : st.length ≤ 20) :
    ∃ m ≤ 5, Goes k h m (E.to c0 st) (E.to ((c0 + (brBlk i c0 c).length : Nat) : Int) (st ++ [if c = 0 then 9 else 7])) := by
  have cs : ∀ t : Nat, ((c0 : Int) + t) = ((c0 + t : Nat) : Int) := by intro t; omega
  unfold brBlk at *
  split at hd
  · rename_i hi
    rw [if_pos hi]
    simp only [List.length_cons, List.length_nil, Nat.zero_add] at hd ⊢
    have a0 : AtI E 0 (c0 + 0) 1 0 c := hE.at (hd 0 (by omega)) (by omega) (by omega) (by omega) (by omega)
    have a1 : AtI E 0 (c0 + 1) 4 ((c0 : Int) + 4) 0 := hE.at (hd 1 (by omega)) (by omega) (by omega) (by omega) (by omega)
    have a2 : AtI E 0 (c0 + 2) 1 0 7 := hE.at (hd 2 (by omega)) (by omega) (by omega) (by omega) (by omega)
    have a3 : AtI E 0 (c0 + 3) 3 ((c0 : Int) + 5) 0 := hE.at (hd 3 (by omega)) (by omega) (by omega) (by omega) (by omega)
    have a4 : AtI E 0 (c0 + 4) 1 0 9 := hE.at (hd 4 (by omega)) (by omega) (by omega) (by omega) (by omega)
    have s0 : StepTo k h (E.to c0 st) (E.to ((c0 + 1 : Nat) : Int) (st ++ [c])) 1 0 0 := to_lit (i := c0) a0 (by omega)
    have s1 := to_zero (k := k) (h := h) (st := st) a1 c
    by_cases hz : c = 0
    · rw [if_pos hz] at s1 ⊢
      have s1' : StepTo k h (E.to ((c0 + 1 : Nat) : Int) (st ++ [c])) (E.to ((c0 + 4 : Nat) : Int) st) 1 0 0 := by have := cs 4; rw [← this]; exact s1
      have s4 : StepTo k h (E.to ((c0 + 4 : Nat) : Int) st) (E.to ((c0 + 5 : Nat) : Int) (st ++ [9])) 1 0 0 := to_lit a4 (by omega)
      exact ⟨3, by omega, .step s0 (.step s1' (.one s4))⟩
    · rw [if_neg hz] at s1 ⊢
      have s1' : StepTo k h (E.to ((c0 + 1 : Nat) : Int) (st ++ [c])) (E.to ((c0 + 2 : Nat) : Int) st) 1 0 0 := s1
      have s2 : StepTo k h (E.to ((c0 + 2 : Nat) : Int) st) (E.to ((c0 + 3 : Nat) : Int) (st ++ [7])) 1 0 0 := to_lit a2 (by omega)
      have s3 : StepTo k h (E.to ((c0 + 3 : Nat) : Int) (st ++ [7])) (E.to ((c0 + 5 : Nat) : Int) (st ++ [7])) 1 0 0 := by have := cs 5; rw [← this]; exact to_jump a3
      exact ⟨4, by omega, .step s0 (.step s1' (.step s2 (.one s3)))⟩
  · rename_i hi
    rw [if_neg hi]
    simp only [List.length_cons, List.length_nil, Nat.zero_add] at hd ⊢
    have a0 : AtI E 0 (c0 + 0) 1 0 c := hE.at (hd 0 (by omega)) (by omega) (by omega) (by omega) (by omega)
    have a1 : AtI E 0 (c0 + 1) 1 0 0 := hE.at (hd 1 (by omega)) (by omega) (by omega) (by omega) (by omega)
    have a2 : AtI E 0 (c0 + 2) 10 ((c0 : Int) + 5) 0 := hE.at (hd 2 (by omega)) (by omega) (by omega) (by omega) (by omega)
    have a3 : AtI E 0 (c0 + 3) 1 0 9 := hE.at (hd 3 (by omega)) (by omega) (by omega) (by omega) (by omega)
    have a4 : AtI E 0 (c0 + 4) 3 ((c0 : Int) + 7) 0 := hE.at (hd 4 (by omega)) (by omega) (by omega) (by omega) (by omega)
    have a5 : AtI E 0 (c0 + 5) 11 0 0 := hE.at (hd 5 (by omega)) (by omega) (by omega) (by omega) (by omega)
    have a6 : AtI E 0 (c0 + 6) 1 0 7 := hE.at (hd 6 (by omega)) (by omega) (by omega) (by omega) (by omega)
    have s0 : StepTo k h (E.to c0 st) (E.to ((c0 + 1 : Nat) : Int) (st ++ [c])) 1 0 0 := to_lit (i := c0) a0 (by omega)
    have s1 : StepTo k h (E.to ((c0 + 1 : Nat) : Int) (st ++ [c])) (E.to ((c0 + 2 : Nat) : Int) (st ++ [c, 0])) 1 0 0 := by
      have := to_lit (k := k) (h := h) (st := st ++ [c]) a1 (by simp; omega)
      rwa [List.append_assoc] at this
    by_cases hz : c = 0
    · rw [if_pos hz]
      subst hz
      have s2 : StepTo k h (E.to ((c0 + 2 : Nat) : Int) (st ++ [0, 0])) (E.to ((c0 + 3 : Nat) : Int) st) 1 0 0 := to_of_same a2 (by omega) 0
      have s3 : StepTo k h (E.to ((c0 + 3 : Nat) : Int) st) (E.to ((c0 + 4 : Nat) : Int) (st ++ [9])) 1 0 0 := to_lit a3 (by omega)
      have s4 : StepTo k h (E.to ((c0 + 4 : Nat) : Int) (st ++ [9])) (E.to ((c0 + 7 : Nat) : Int) (st ++ [9])) 1 0 0 := by have := cs 7; rw [← this]; exact to_jump a4
      exact ⟨5, by omega, .step s0 (.step s1 (.step s2 (.step s3 (.one s4))))⟩
    · rw [if_neg hz]
      have s2 : StepTo k h (E.to ((c0 + 2 : Nat) : Int) (st ++ [c, 0])) (E.to ((c0 + 5 : Nat) : Int) (st ++ [c])) 1 0 0 := by have := cs 5; rw [← this]; exact to_of_other a2 (by omega) c 0 hz
      have s5 : StepTo k h (E.to ((c0 + 5 : Nat) : Int) (st ++ [c])) (E.to ((c0 + 6 : Nat) : Int) st) 1 0 0 := to_drop a5 c
      have s6 : StepTo k h (E.to ((c0 + 6 : Nat) : Int) st) (E.to ((c0 + 7 : Nat) : Int) (st ++ [7])) 1 0 0 := to_lit a6 (by omega)
      exact ⟨5, by omega, .step s0 (.step s1 (.step s2 (.step s5 (.one s6))))⟩

theorem br_goes {k : Nat} {h : Hd} {E : Eng} (l : List Int) (n : Nat) (hn : n ≤ 20) (hE : BrAt E (brDef l n)) : ∀ j ≤ n, ∃ m ≤ 5 * j, Goes k h m (E.to 0 []) (E.to ((brCode l j).length : Int) (brWant l j))
  | 0, _ => ⟨0, by omega, .refl _⟩
  | j + 1, hj => by
    obtain ⟨m, hm, hg⟩ := br_goes (k := k) (h := h) l n hn hE j (by omega)
    have hlen := brCode_length l j
    have hpre : ∀ j', j + 1 ≤ j' → ∀ t, t < (brCode l (j + 1)).length → (brCode l j')[t]? = (brCode l (j + 1))[t]? := by
      intro j' hj' t ht
      induction j' with
      | zero => omega
      | succ j' ih =>
        by_cases he : j' = j
        · subst he; rfl
        · have h1 := ih (by omega)
          have ht' : t < (brCode l j').length := by
            rcases Nat.lt_or_ge t (brCode l j').length with h2 | h2
            · exact h2
            · rw [List.getElem?_eq_none h2] at h1; rw [List.getElem?_eq_getElem ht] at h1; cases h1
          have e : brCode l (j' + 1) = brCode l j' ++ brBlk j' (brCode l j').length (l.getD j' 0) := rfl
          rw [e, List.getElem?_append_left ht', h1]
    obtain ⟨m2, hm2, hg2⟩ := br_one (k := k) (h := h) hE j (brCode l j).length (l.getD j 0) (by omega) (by
      intro t ht
      have hl1 : (brCode l j).length + t < (brCode l (j + 1)).length := by simp only [brCode, List.length_append]; omega
      have h1 := hpre n hj _ hl1
      have h2 : (brCode l j).length + t < (brCode l n).length := by
        rcases Nat.lt_or_ge ((brCode l j).length + t) (brCode l n).length with h2 | h2
        · exact h2
        · rw [List.getElem?_eq_none h2] at h1; rw [List.getElem?_eq_getElem hl1] at h1; cases h1
      unfold brDef
      rw [List.getElem?_append_left h2, h1]
      have e : brCode l (j + 1) = brCode l j ++ brBlk j (brCode l j).length (l.getD j 0) := rfl
      rw [e, List.getElem?_append_right (by omega), Nat.add_sub_cancel_left]) (brWant l j) (by rw [brWant_length]; omega)
    refine ⟨m + m2, by omega, hg.trans ?_⟩
    have e : brCode l (j + 1) = brCode l j ++ brBlk j (brCode l j).length (l.getD j 0) := rfl
    rw [e, List.length_append]; exact hg2

/-- The run of it, from its execution to its end. -/
theorem br_run {k : Nat} {h : Hd} {E : Eng} (l : List Int) (n : Nat) (hn : n ≤ 20) (m : Nat) (y : Int) (hcode : E.c.code = encI (brDef l n)) (hends : E.c.ends = [((encI (brDef l n)).length : Int)]) (hnext : E.c.next = (m : Int) + 1) (hword : E.c.words[m]? = some ⟨5, 1, y⟩)
    (hdef : E.c.def_ = 0) (hon : E.c.on = 0) (hfs : E.fs = []) (hst : E.s.stack = []) :
    ∃ q ≤ 103, ∃ E2, Goes k h q E E2 ∧ StepTo k h E2 E2 5 0 0 ∧ E2.s.stack = brWant l n ∧ E2.fs = [] := by
  obtain ⟨c, fs, s, i⟩ := E
  obtain ⟨code, ends, words, def_, on, next⟩ := c
  obtain ⟨stack, mem, here, out, made⟩ := s
  dsimp only at hcode hends hnext hword hdef hon hfs hst
  subst hcode hends hdef hon hfs hst hnext
  have s0 := to_colon (k := k) (h := h) (E := ⟨⟨encI (brDef l n), [((encI (brDef l n)).length : Int)], words, 0, 0, (m : Int) + 1⟩, [], ⟨[], mem, here, out, made⟩, i⟩) (m := m) (d := 0) (y := y) rfl hword (by simp) (by simp)
  have hB : BrAt ⟨⟨encI (brDef l n), [((encI (brDef l n)).length : Int)], words, 1, 0, 0⟩, [⟨1, 0, 0, 0, 0, []⟩], ⟨[], mem, here, out, made⟩, i⟩ (brDef l n) := ⟨rfl, rfl, rfl, rfl, rfl⟩
  obtain ⟨q, hq, hg⟩ := br_goes (k := k) (h := h) l n hn hB n (Nat.le_refl _)
  have hx : AtI _ 0 (brCode l n).length 15 0 0 := hB.at (i := (brCode l n).length) (by simp [brDef]) (by omega) (by omega) (by omega) (by omega)
  have s1 := to_exit (k := k) (h := h) (st := brWant l n) hx
  have s2 := to_back (k := k) (h := h) (E := ⟨⟨encI (brDef l n), [((encI (brDef l n)).length : Int)], words, 1, 0, 0⟩, [⟨1, 0, 0, 0, 0, []⟩], ⟨[], mem, here, out, made⟩, i⟩) (st := brWant l n) (Fs := []) rfl rfl
  refine ⟨q + 2 + 1, by omega, _, .step s0 (hg.trans (.step s1 (.one s2))), to_halt rfl rfl rfl, rfl, rfl⟩
end Go.Proofs.YtjcaidbkbdkpeaaGreatDoor
