/- A text that is split at spaces, piece by piece. -/
import Derived.Test.YtjcaidbkbdkpeaaGreatDoorShelf
import Derived.Lib.IndexBytes
import Derived.Lib.CountLaws
import Derived.Lib.CutLaws
import Derived.Lib.Split
namespace Go.Proofs.YtjcaidbkbdkpeaaGreatDoor
open Go Go.RowKit Go.Lib

def spl : List UInt8 → List (List UInt8)
  | [] => [[]]
  | c :: l => if c = 32 then [] :: spl l else match spl l with
    | p :: ps => (c :: p) :: ps
    | [] => [[c]]

theorem spl_ne : ∀ l, spl l ≠ []
  | [] => by simp [spl]
  | c :: l => by unfold spl; split <;> (try split) <;> simp

theorem spl_none : ∀ l : List UInt8, (∀ k : Nat, l[k]? ≠ some 32) → spl l = [l]
  | [], _ => rfl
  | c :: l, h => by
    have hc : c ≠ 32 := fun e => h 0 (by simp [e])
    have ih := spl_none l (fun k => h (k + 1))
    unfold spl; rw [if_neg hc, ih]

theorem spl_some : ∀ (l : List UInt8) (i : Nat), l[i]? = some 32 → (∀ k : Nat, k < i → l[k]? ≠ some 32) → spl l = l.take i :: spl (l.drop (i + 1))
  | [], i, h, _ => by simp at h
  | c :: l, 0, h, _ => by
    have hc : c = 32 := by simpa using h
    subst hc; simp [spl]
  | c :: l, i + 1, h, h2 => by
    have hc : c ≠ 32 := fun e => h2 0 (by omega) (by simp [e])
    have ih := spl_some l i (by simpa using h) (fun k hk => by have := h2 (k + 1) (by omega); simpa using this)
    conv => lhs; unfold spl
    rw [if_neg hc, ih]; simp

def sp : ByteArray := ⟨#[32]⟩

theorem split_spl : ∀ (m : Nat) (s : ByteArray), s.size ≤ m → (splitB sp 0 (countB s sp) s).map (·.data.toList) = spl s.data.toList ∧ countB s sp + 1 = (spl s.data.toList).length := by
  intro m
  induction m with
  | zero =>
    intro s hs
    have h0 : s.data.toList = [] := by
      apply List.eq_nil_of_length_eq_zero; have := size_eq s; omega
    have hi : indexB s sp = -1 := by
      rw [one s sp rfl, h0]; rfl
    rw [countB_miss _ _ hi, splitB_zero, h0]
    exact ⟨by simp [h0, spl], rfl⟩
  | succ m ih =>
    intro s hs
    have h1 : indexB s sp = indexByte s.data.toList 32 := one s sp rfl
    rcases indexB_cases s sp with hi | ⟨i, hi, hle⟩
    · have hno := indexByte_none (h1.symm.trans hi)
      rw [countB_miss _ _ hi, splitB_zero, spl_none _ hno]
      exact ⟨rfl, rfl⟩
    · obtain ⟨g1, g2⟩ := indexByte_some (h1.symm.trans hi)
      have hs1 : sp.size = 1 := rfl
      have e1 : (s.extract (i + sp.size) s.size).data.toList = s.data.toList.drop (i + 1) := by
        rw [hs1, extract_eq]
        show ((s.data.toList.drop (i + 1)).take (s.size - (i + 1))) = _
        exact List.take_of_length_le (by rw [List.length_drop, size_eq]; exact Nat.le_refl _)
      have e2 : (s.extract 0 (i + 0)).data.toList = s.data.toList.take i := by rw [extract_eq]; simp
      obtain ⟨ih1, ih2⟩ := ih (s.extract (i + sp.size) s.size) (by rw [size_eq, e1]; have := size_eq s; simp; omega)
      rw [countB_hit s sp i (by decide) hi, Nat.add_comm 1, splitB_hit _ _ _ _ _ hi, spl_some _ i g1 g2, List.map_cons, ih1, e1, e2]
      refine ⟨rfl, ?_⟩
      rw [List.length_cons, ← e1, ← ih2]

/-- The pieces of a text: so many, none of them empty. -/
theorem split_pieces (S : ByteArray) (N : Nat) (h : ((spl S.data.toList).all (fun x => decide (x.length ≠ 0)) && decide ((spl S.data.toList).length = N)) = true) :
    countB S sp + 1 = N ∧ (splitB sp 0 (countB S sp) S).length = N ∧ ((splitB sp 0 (countB S sp) S).all (fun x => decide (x.size ≠ 0))) = true := by
  rw [Bool.and_eq_true] at h
  obtain ⟨h1, h2⟩ := split_spl S.size S (Nat.le_refl _)
  have h3 := of_decide_eq_true h.2
  refine ⟨h2.trans h3, ?_, ?_⟩
  · rw [← h3, ← h1, List.length_map]
  · rw [List.all_eq_true]
    intro x hx
    have h4 := List.all_eq_true.1 h.1 x.data.toList (by rw [← h1]; exact List.mem_map.2 ⟨x, hx, rfl⟩)
    rw [size_eq]; exact h4
end Go.Proofs.YtjcaidbkbdkpeaaGreatDoor
