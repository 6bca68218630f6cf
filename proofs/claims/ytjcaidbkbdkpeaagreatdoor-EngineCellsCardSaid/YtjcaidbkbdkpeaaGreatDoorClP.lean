/- Cells that are put aside: the run. -/
import Derived.Test.YtjcaidbkbdkpeaaGreatDoorCl
namespace Go.Proofs.YtjcaidbkbdkpeaaGreatDoor
open Go Go.RowKit Go.Rh

/-- The word that is called for the cell j: its own, or one that stands for it. -/
def clW (j : Nat) : Int := if j / 2 % 2 = 0 then 181 + 2 * (j : Int) else 182 + 2 * (j : Int)
def clA1 (j : Nat) : List In1 := [⟨2, clW j, 0⟩, ⟨2, 108, 0⟩]
def clB1 (_ : Nat) : List In1 := [⟨2, 110, 0⟩, ⟨2, 109, 0⟩]
def clA (n : Nat) : List In1 := (List.range n).flatMap clA1
def clB (n : Nat) : List In1 := (List.range n).flatMap clB1
def clD (n : Nat) : List In1 := clA n ++ clB n ++ [⟨15, 0, 0⟩]
def clP (l : List Int) (j : Nat) : List Wd := [⟨if j % 2 = 0 then 6 else 9, 0, l.getD j 0⟩, ⟨8, 181 + 2 * (j : Int), 0⟩]
def clWs (l : List Int) (n : Nat) : List Wd := builtW ++ (List.range n).flatMap (clP l)

theorem clA_length (n : Nat) : (clA n).length = n * 2 := by unfold clA; rw [flat_length clA1 2 (fun _ => rfl), List.length_range]
theorem clB_length (n : Nat) : (clB n).length = n * 2 := by unfold clB; rw [flat_length clB1 2 (fun _ => rfl), List.length_range]
theorem clD_length (n : Nat) : (clD n).length = n * 4 + 1 := by unfold clD; rw [List.length_append, List.length_append, clA_length, clB_length]; simp; omega
theorem clWs_length (l : List Int) (n : Nat) : (clWs l n).length = 180 + n * 2 := by unfold clWs; rw [List.length_append, builtW_length, flat_length (clP l) 2 (fun _ => rfl), List.length_range]
theorem clA_snoc (n : Nat) : clA (n + 1) = clA n ++ clA1 n := by unfold clA; rw [List.range_succ, List.flatMap_append]; simp
theorem clB_snoc (n : Nat) : clB (n + 1) = clB n ++ clB1 n := by unfold clB; rw [List.range_succ, List.flatMap_append]; simp
theorem clWs_snoc (l : List Int) (n : Nat) : clWs l (n + 1) = clWs l n ++ clP l n := by unfold clWs; rw [List.range_succ, List.flatMap_append]; simp

theorem clD_a (n j t : Nat) (hj : j < n) (ht : t < 2) : (clD n)[j * 2 + t]? = (clA1 j)[t]? := by
  have h := flat_get clA1 2 (fun _ => rfl) (List.range n) j t j (by simp [hj]) ht
  unfold clD
  rw [List.append_assoc, List.getElem?_append_left (by rw [clA_length]; omega)]
  exact h
theorem clD_b (n j t : Nat) (hj : j < n) (ht : t < 2) : (clD n)[n * 2 + (j * 2 + t)]? = (clB1 j)[t]? := by
  have h := flat_get clB1 2 (fun _ => rfl) (List.range n) j t j (by simp [hj]) ht
  unfold clD
  rw [List.append_assoc, List.getElem?_append_right (by rw [clA_length]; omega), clA_length, Nat.add_sub_cancel_left, List.getElem?_append_left (by rw [clB_length]; omega)]
  exact h
theorem clD_end (n : Nat) : (clD n)[n * 4]? = some ⟨15, 0, 0⟩ := by
  unfold clD
  rw [List.getElem?_append_right (by rw [List.length_append, clA_length, clB_length]; omega), List.length_append, clA_length, clB_length, show n * 4 - (n * 2 + n * 2) = 0 by omega]
  rfl
theorem clWs_p (l : List Int) (n j t : Nat) (hj : j < n) (ht : t < 2) : (clWs l n)[180 + (j * 2 + t)]? = (clP l j)[t]? := by
  have h := flat_get (clP l) 2 (fun _ => rfl) (List.range n) j t j (by simp [hj]) ht
  unfold clWs
  rw [List.getElem?_append_right (by rw [builtW_length]; omega), builtW_length, Nat.add_sub_cancel_left]
  exact h
theorem clWs_b (l : List Int) (n i : Nat) (hi : i < 180) : (clWs l n)[i]? = builtW[i]? := by
  unfold clWs
  rw [List.getElem?_append_left (by rw [builtW_length]; omega)]
theorem builtW_toR : builtW[107]? = some ⟨2, 1, 0⟩ := by kernel_rfl
theorem builtW_fromR : builtW[108]? = some ⟨2, 2, 0⟩ := by kernel_rfl
theorem builtW_copyR : builtW[109]? = some ⟨2, 3, 0⟩ := by kernel_rfl

theorem clD_plain (n words : Nat) (hn : n ≤ 20) (hw : 180 + n * 2 ≤ words) : PlainDef (clD n) words := by
  have hl := clD_length n
  have hin : ∀ (k : Nat) (x : In1), (clD n)[k]? = some x → (x.op = 2 ∧ 1 ≤ x.a ∧ x.a ≤ words ∧ x.x = 0 ∧ k < n * 4) ∨ x = ⟨15, 0, 0⟩ := by
    intro k x hx
    have hk : k < (clD n).length := (List.getElem?_eq_some_iff.1 hx).1
    rw [hl] at hk
    by_cases h1 : k < n * 2
    · have e : k = k / 2 * 2 + k % 2 := by omega
      rw [e, clD_a n (k / 2) (k % 2) (by omega) (by omega)] at hx
      left
      have h2 : k % 2 = 0 ∨ k % 2 = 1 := by omega
      rcases h2 with h2 | h2
      · rw [h2] at hx; simp [clA1] at hx; subst hx
        refine ⟨rfl, ?_, ?_, rfl, by omega⟩ <;> (show _ ≤ _; simp only [clW]; split <;> omega)
      · rw [h2] at hx; simp [clA1] at hx; subst hx
        exact ⟨rfl, by simp, by simp; omega, rfl, by omega⟩
    · by_cases h3 : k < n * 4
      · have e : k = n * 2 + ((k - n * 2) / 2 * 2 + (k - n * 2) % 2) := by omega
        rw [e, clD_b n ((k - n * 2) / 2) ((k - n * 2) % 2) (by omega) (by omega)] at hx
        left
        have h2 : (k - n * 2) % 2 = 0 ∨ (k - n * 2) % 2 = 1 := by omega
        rcases h2 with h2 | h2
        · rw [h2] at hx; simp [clB1] at hx; subst hx
          exact ⟨rfl, by simp, by simp; omega, rfl, by omega⟩
        · rw [h2] at hx; simp [clB1] at hx; subst hx
          exact ⟨rfl, by simp, by simp; omega, rfl, by omega⟩
      · right
        have e : k = n * 4 := by omega
        rw [e, clD_end n] at hx
        exact (Option.some.inj hx).symm
  have hmem : ∀ x ∈ clD n, (x.op = 2 ∧ 1 ≤ x.a ∧ x.a ≤ words ∧ x.x = 0) ∨ x = ⟨15, 0, 0⟩ := by
    intro x hx
    obtain ⟨k, hk⟩ := List.mem_iff_getElem?.1 hx
    rcases hin k x hk with ⟨h1, h2, h3, h4, _⟩ | h
    · exact .inl ⟨h1, h2, h3, h4⟩
    · exact .inr h
  refine ⟨by omega, by omega, ?_, ?_, ?_, ?_, ?_, ?_, ?_⟩
  · intro x hx
    rcases hmem x hx with ⟨h, _⟩ | rfl
    · unfold Plain; omega
    · unfold Plain; simp
  · intro k x hx t ht
    rcases hin k x hx with ⟨h, _, _, _, h4⟩ | rfl
    · rw [hl]
      unfold nexts at ht
      rw [if_neg (by omega), if_neg (by omega), if_neg (by omega)] at ht
      simp at ht; omega
    · simp [nexts] at ht
  · intro x hx h2
    rcases hmem x hx with ⟨_, h3, h4, _⟩ | rfl
    · exact ⟨h3, h4⟩
    · simp at h2
  · intro x hx h2
    rcases hmem x hx with ⟨h, _⟩ | rfl
    · omega
    · simp at h2
  · intro x hx h2
    rcases hmem x hx with ⟨h, _⟩ | rfl
    · omega
    · rfl
  · intro x hx h2
    rcases hmem x hx with ⟨_, _, _, h⟩ | rfl
    · exact h
    · rfl
  · rw [hl, Nat.add_sub_cancel, clD_end n]; rfl

/-- The frames when the first j cells are put aside. -/
def clF (l : List Int) : Nat → List Fr
  | 0 => []
  | j + 1 => clF l j ++ [fcell (l.getD j 0)]
theorem clF_length (l : List Int) : ∀ j, (clF l j).length = j
  | 0 => rfl
  | j + 1 => by simp [clF, clF_length l j]
/-- What lies on the stack when the last t of n are taken back. -/
def clS (l : List Int) (n : Nat) : Nat → List Int
  | 0 => []
  | t + 1 => clS l n t ++ [l.getD (n - 1 - t) 0, l.getD (n - 1 - t) 0]
theorem clS_length (l : List Int) (n : Nat) : ∀ t, (clS l n t).length = t * 2
  | 0 => rfl
  | t + 1 => by simp [clS, clS_length l n t]; omega

/-- An engine within the definition. -/
structure ClAt (E : Eng) (l : List Int) (n : Nat) : Prop where
  def_ : E.c.def_ = 1
  code : E.c.code = encI (clD n)
  ends : E.c.ends = [((encI (clD n)).length : Int)]
  pre : ∃ r, E.c.words = clWs l n ++ r

section
variable {k : Nat} {h : Hd} {E : Eng} {l : List Int} {n : Nat}
theorem ClAt.word (hE : ClAt E l n) {i : Nat} {x : Wd} (hi : i < 180 + n * 2) (hx : (clWs l n)[i]? = some x) : E.c.words[i]? = some x := by
  obtain ⟨r, hr⟩ := hE.pre
  rw [hr, List.getElem?_append_left (by rw [clWs_length]; exact hi), hx]
theorem ClAt.ins (hE : ClAt E l n) {i : Nat} {x : In1} (hi : (clD n)[i]? = some x) (h0 : 0 ≤ x.op) (h1 : x.op < 256) (h2 : 0 ≤ x.a) (h3 : x.a ≤ 100000) : InsAt E.c 0 i x.op x.a x.x :=
  insAt_first E.c (clD n) hE.code hE.ends hi h0 h1 h2 h3

theorem cl_snoc (l : List Int) (j : Nat) : ∃ Fs f, fcall :: clF l j = Fs ++ [f] ∧ FOk f ∧ Fs.length = j := by
  cases j with
  | zero => exact ⟨[], fcall, rfl, FOk.call, rfl⟩
  | succ j => exact ⟨fcall :: clF l j, fcell (l.getD j 0), rfl, FOk.cell _, by simp [clF_length]⟩

theorem cl_put (hE : ClAt E l n) (hn : n ≤ 20) (j : Nat) (hj : j < n) : ∃ m ≤ 3, Goes k h m (E.go ((j * 2 : Nat) : Int) 0 [] (fcall :: clF l j)) (E.go (((j + 1) * 2 : Nat) : Int) 0 [] (fcall :: clF l (j + 1))) := by
  obtain ⟨Fs, f, hfs, hok, hfl⟩ := cl_snoc l j
  have hd : E.c.def_ = ((0 : Nat) : Int) + 1 := by rw [hE.def_]; rfl
  have hp0 : E.c.words[180 + (j * 2 + 0)]? = some ⟨if j % 2 = 0 then 6 else 9, 0, l.getD j 0⟩ := hE.word (by omega) (by rw [clWs_p l n j 0 hj (by omega)]; rfl)
  have hp1 : E.c.words[180 + (j * 2 + 1)]? = some ⟨8, 181 + 2 * (j : Int), 0⟩ := hE.word (by omega) (by rw [clWs_p l n j 1 hj (by omega)]; rfl)
  have hw : E.c.words[180 + (j * 2 + 0)]? = some ⟨6, 0, l.getD j 0⟩ ∨ E.c.words[180 + (j * 2 + 0)]? = some ⟨9, 0, l.getD j 0⟩ := by
    by_cases h2 : j % 2 = 0
    · rw [if_pos h2] at hp0; exact .inl hp0
    · rw [if_neg h2] at hp0; exact .inr hp0
  have i1 : InsAt E.c 0 (j * 2 + 1) 2 (((107 : Nat) : Int) + 1) 0 := hE.ins (x := ⟨2, 108, 0⟩) (by rw [clD_a n j 1 hj (by omega)]; rfl) (by simp) (by simp) (by simp) (by simp)
  have hq : E.c.words[107]? = some ⟨2, 1, 0⟩ := hE.word (by omega) (by rw [clWs_b l n 107 (by omega)]; exact builtW_toR)
  have s2 : StepTo k h (E.go ((j * 2 + 1 : Nat) : Int) 0 ([] ++ [l.getD j 0]) (Fs ++ [f])) (E.go (((j * 2 + 1 : Nat) : Int) + 1) 0 [] ((Fs ++ [f]) ++ [fcell (l.getD j 0)])) 1 0 0 := go_toR hd i1 hq hok (by omega)
  have e2 : ((j * 2 + 1 : Nat) : Int) + 1 = (((j + 1) * 2 : Nat) : Int) := by omega
  rw [e2] at s2
  rw [hfs]
  have hF : fcall :: clF l (j + 1) = (Fs ++ [f]) ++ [fcell (l.getD j 0)] := by rw [← hfs]; rfl
  rw [hF]
  by_cases hpar : j / 2 % 2 = 0
  · have i0 : InsAt E.c 0 (j * 2 + 0) 2 (((180 + (j * 2 + 0) : Nat) : Int) + 1) 0 := by
      have := hE.ins (x := ⟨2, clW j, 0⟩) (by rw [clD_a n j 0 hj (by omega)]; rfl) (by simp) (by simp) (by simp only [clW]; split <;> omega) (by simp only [clW]; split <;> omega)
      have e : clW j = ((180 + (j * 2 + 0) : Nat) : Int) + 1 := by simp only [clW, hpar, if_true]; omega
      rw [← e]; exact this
    have s1 : StepTo k h (E.go ((j * 2 : Nat) : Int) 0 [] (Fs ++ [f])) (E.go ((j * 2 + 1 : Nat) : Int) 0 ([] ++ [l.getD j 0]) (Fs ++ [f])) 1 0 0 := go_push hd i0 hw hok (by simp)
    exact ⟨2, by omega, .step s1 (.one s2)⟩
  · have i0 : InsAt E.c 0 (j * 2 + 0) 2 (((180 + (j * 2 + 1) : Nat) : Int) + 1) 0 := by
      have := hE.ins (x := ⟨2, clW j, 0⟩) (by rw [clD_a n j 0 hj (by omega)]; rfl) (by simp) (by simp) (by simp only [clW]; split <;> omega) (by simp only [clW]; split <;> omega)
      have e : clW j = ((180 + (j * 2 + 1) : Nat) : Int) + 1 := by simp only [clW, hpar, if_false]; omega
      rw [← e]; exact this
    have hp1' : E.c.words[180 + (j * 2 + 1)]? = some ⟨8, ((180 + (j * 2 + 0) : Nat) : Int) + 1, 0⟩ := by rw [hp1]; congr 2; omega
    have s0 : StepTo k h (E.go ((j * 2 : Nat) : Int) 0 [] (Fs ++ [f])) (E.go ((j * 2 + 1 : Nat) : Int) (((180 + (j * 2 + 0) : Nat) : Int) + 1) [] (Fs ++ [f])) 1 0 0 :=
      go_defer hd i0 hp1' (by obtain ⟨r, hr⟩ := hE.pre; rw [hr, List.length_append, clWs_length]; omega) hok
    have s1 : StepTo k h (E.go ((j * 2 + 1 : Nat) : Int) (((180 + (j * 2 + 0) : Nat) : Int) + 1) [] (Fs ++ [f])) (E.go ((j * 2 + 1 : Nat) : Int) 0 ([] ++ [l.getD j 0]) (Fs ++ [f])) 1 0 0 := go_next hw (by simp)
    exact ⟨3, by omega, .step s0 (.step s1 (.one s2))⟩

theorem cl_puts (hE : ClAt E l n) (hn : n ≤ 20) : ∀ j ≤ n, ∃ m ≤ 3 * j, Goes k h m (E.go 0 0 [] [fcall]) (E.go ((j * 2 : Nat) : Int) 0 [] (fcall :: clF l j))
  | 0, _ => ⟨0, by omega, .refl _⟩
  | j + 1, hj => by
    obtain ⟨m, hm, hg⟩ := cl_puts hE hn j (by omega)
    obtain ⟨m2, hm2, hg2⟩ := cl_put (k := k) (h := h) hE hn j (by omega)
    exact ⟨m + m2, by omega, hg.trans hg2⟩

theorem cl_takes (hE : ClAt E l n) (hn : n ≤ 20) : ∀ t ≤ n, Goes k h (2 * t) (E.go ((n * 2 : Nat) : Int) 0 [] (fcall :: clF l n)) (E.go ((n * 2 + t * 2 : Nat) : Int) 0 (clS l n t) (fcall :: clF l (n - t)))
  | 0, _ => .refl _
  | t + 1, ht => by
    have hg := cl_takes hE hn t (by omega)
    have hd : E.c.def_ = ((0 : Nat) : Int) + 1 := by rw [hE.def_]; rfl
    have hF : fcall :: clF l (n - t) = (fcall :: clF l (n - (t + 1))) ++ [fcell (l.getD (n - 1 - t) 0)] := by
      rw [show n - t = (n - (t + 1)) + 1 by omega]
      show fcall :: (clF l (n - (t + 1)) ++ [fcell (l.getD (n - (t + 1)) 0)]) = _
      rw [show n - (t + 1) = n - 1 - t by omega]; rfl
    rw [hF] at hg
    have i0 : InsAt E.c 0 (n * 2 + (t * 2 + 0)) 2 (((109 : Nat) : Int) + 1) 0 := hE.ins (x := ⟨2, 110, 0⟩) (by rw [clD_b n t 0 (by omega) (by omega)]; rfl) (by simp) (by simp) (by simp) (by simp)
    have i1 : InsAt E.c 0 (n * 2 + (t * 2 + 1)) 2 (((108 : Nat) : Int) + 1) 0 := hE.ins (x := ⟨2, 109, 0⟩) (by rw [clD_b n t 1 (by omega) (by omega)]; rfl) (by simp) (by simp) (by simp) (by simp)
    have q0 : E.c.words[109]? = some ⟨2, 3, 0⟩ := hE.word (by omega) (by rw [clWs_b l n 109 (by omega)]; exact builtW_copyR)
    have q1 : E.c.words[108]? = some ⟨2, 2, 0⟩ := hE.word (by omega) (by rw [clWs_b l n 108 (by omega)]; exact builtW_fromR)
    have hsl := clS_length l n t
    have s0 : StepTo k h (E.go ((n * 2 + t * 2 : Nat) : Int) 0 (clS l n t) ((fcall :: clF l (n - (t + 1))) ++ [fcell (l.getD (n - 1 - t) 0)])) (E.go ((n * 2 + (t * 2 + 1) : Nat) : Int) 0 (clS l n t ++ [l.getD (n - 1 - t) 0]) ((fcall :: clF l (n - (t + 1))) ++ [fcell (l.getD (n - 1 - t) 0)])) 1 0 0 :=
      go_copyR hd i0 q0 (by omega)
    have s1 : StepTo k h (E.go ((n * 2 + (t * 2 + 1) : Nat) : Int) 0 (clS l n t ++ [l.getD (n - 1 - t) 0]) ((fcall :: clF l (n - (t + 1))) ++ [fcell (l.getD (n - 1 - t) 0)])) (E.go (((n * 2 + (t * 2 + 1) : Nat) : Int) + 1) 0 ((clS l n t ++ [l.getD (n - 1 - t) 0]) ++ [l.getD (n - 1 - t) 0]) (fcall :: clF l (n - (t + 1)))) 1 0 0 :=
      go_fromR hd i1 q1 (by simp; omega)
    have e1 : ((n * 2 + (t * 2 + 1) : Nat) : Int) + 1 = ((n * 2 + (t + 1) * 2 : Nat) : Int) := by omega
    have e2 : (clS l n t ++ [l.getD (n - 1 - t) 0]) ++ [l.getD (n - 1 - t) 0] = clS l n (t + 1) := by simp [clS]
    rw [e1, e2] at s1
    exact hg.trans (.step s0 (.one s1))
end

/-- The whole run. -/
theorem cl_run {k : Nat} {h : Hd} {E : Eng} (l : List Int) (n : Nat) (hn : n ≤ 20) (m : Nat) (y : Int) (hcode : E.c.code = encI (clD n)) (hends : E.c.ends = [((encI (clD n)).length : Int)]) (hnext : E.c.next = (m : Int) + 1) (hword : E.c.words[m]? = some ⟨5, 1, y⟩) (hpre : ∃ r, E.c.words = clWs l n ++ r)
    (hdef : E.c.def_ = 0) (hon : E.c.on = 0) (hfs : E.fs = []) (hst : E.s.stack = []) :
    ∃ q ≤ 103, Goes k h q E ⟨{ E.c with def_ := 0, on := 0, next := 0 }, [], { E.s with stack := clS l n n }, E.i⟩ ∧ StepTo k h ⟨{ E.c with def_ := 0, on := 0, next := 0 }, [], { E.s with stack := clS l n n }, E.i⟩ ⟨{ E.c with def_ := 0, on := 0, next := 0 }, [], { E.s with stack := clS l n n }, E.i⟩ 5 0 0 := by
  obtain ⟨c, fs, s, i⟩ := E
  obtain ⟨code, ends, words, def_, on, next⟩ := c
  obtain ⟨stack, mem, here, out, made⟩ := s
  dsimp only at hcode hends hnext hword hdef hon hfs hst hpre
  subst hcode hends hdef hon hfs hst hnext
  have s0 := to_colon (k := k) (h := h) (E := ⟨⟨encI (clD n), [((encI (clD n)).length : Int)], words, 0, 0, (m : Int) + 1⟩, [], ⟨[], mem, here, out, made⟩, i⟩) (m := m) (d := 0) (y := y) rfl hword (by simp) (by simp)
  have hB : ClAt ⟨⟨encI (clD n), [((encI (clD n)).length : Int)], words, 1, 0, 0⟩, [fcall], ⟨[], mem, here, out, made⟩, i⟩ l n := ⟨rfl, rfl, rfl, hpre⟩
  obtain ⟨q, hq, hg⟩ := cl_puts (k := k) (h := h) hB hn n (Nat.le_refl _)
  have hg2 := cl_takes (k := k) (h := h) hB hn n (Nat.le_refl _)
  rw [Nat.sub_self] at hg2
  have hI : InsAt (⟨encI (clD n), [((encI (clD n)).length : Int)], words, 1, 0, 0⟩ : Core) 0 (n * 2 + n * 2) 15 0 0 := hB.ins (x := ⟨15, 0, 0⟩) (by rw [show n * 2 + n * 2 = n * 4 by omega]; exact clD_end n) (by simp) (by simp) (by simp) (by simp)
  have s1 := go_exit (k := k) (h := h) (E := ⟨⟨encI (clD n), [((encI (clD n)).length : Int)], words, 1, 0, 0⟩, [fcall], ⟨[], mem, here, out, made⟩, i⟩) (n := 0) (st := clS l n n) (Fs := []) (f := fcall) rfl hI FOk.call (by simp [fcall])
  have s2 := to_back (k := k) (h := h) (E := ⟨⟨encI (clD n), [((encI (clD n)).length : Int)], words, 1, 0, 0⟩, [fcall], ⟨[], mem, here, out, made⟩, i⟩) (st := clS l n n) (Fs := []) (d := 0) (b := 0) (y := 0) (z := 0) rfl rfl
  refine ⟨q + (2 * n + 2) + 1, by omega, .step s0 (hg.trans (hg2.trans (.step s1 (.one s2)))), to_halt rfl rfl rfl⟩
end Go.Proofs.YtjcaidbkbdkpeaaGreatDoor
