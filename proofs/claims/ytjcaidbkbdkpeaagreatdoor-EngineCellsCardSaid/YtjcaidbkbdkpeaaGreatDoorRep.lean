/- slices.Repeat of one number. -/
import Derived.Test.YtjcaidbkbdkpeaaGreatDoorUpper
import Derived.Test.YtjcaidbkbdkpeaaGreatDoorShelf
import Derived.Deep.RegionLaw
import Derived.Laws.CopyOwn
namespace Go.Proofs.YtjcaidbkbdkpeaaGreatDoor
open Go Go.RowKit Go.Rh

theorem infoInt : (Tryz.prog.info? 3).map (fun i => (i.zero, i.size, i.bytes)) = some (some (.int .i64 0), 1, 8) := by kernel_rfl

theorem made_ints (n : Nat) : madeCells #[.int .i64 0] n = (List.replicate n (cv 0)).toArray := by
  apply Array.ext
  · simp [madeCells]
  · intro i h1 h2
    simp [madeCells, Nat.mod_one, cv]

theorem run_makeInts (n : Nat) (hn : n ≤ 1000) (w : World) : (Instr.makeSlice 31 (.int .i64 n) (.int .i64 n)).run Tryz.prog w = .ok (.slice (some ⟨w.heap.size, 0, none⟩) n n) (w.alloc (.cells (List.replicate n (cv 0)).toArray 3)) := by
  obtain ⟨i0, hi, hz0, hz1, hz2⟩ := info_parts infoInt
  have h := run_make (P := Tryz.prog) w 31 3 i0 (.int .i64 0) Tryz.underlying31 hi hz0 .i64 .i64 n n (by omega) (by omega) (by rw [hz2]; omega) (by omega)
  rw [hz1, Nat.mul_one] at h
  have e : ((n : Int)).toNat = n := by omega
  rw [e, show (Value.int IntKind.i64 0).cells = #[.int .i64 0] from rfl, made_ints] at h
  exact h

/-- So many of them are there. -/
def repC (n m : Nat) : List Value := List.replicate m (cv (-1)) ++ List.replicate (n - m) (cv 0)

def RepLoop (w : World) (o : Owner) (B n m : Nat) (wr : World) : Prop := Blk wr B (repC n m) 3 ∧ Below w.heap.size w wr

set_option maxHeartbeats 1000000 in
set_option maxRecDepth 100000 in
theorem ones_Repeat (w : World) (o : Owner) (hwf : Wf w o) (a : Addr) (c n : Nat) (h1 : 1 ≤ n) (hn : n ≤ 1000) (ha : w.cell? a = some (cv (-1))) (ha1 : a.block < w.heap.size) :
    Calls Tryz.prog 91 #[.slice (some a) 1 c, .int .i64 n] w fun e w' => ∃ B, e = .returned (.slice (some ⟨B, 0, none⟩) n n) ∧ w.heap.size ≤ B ∧ Blk w' B (List.replicate n (cv (-1))) 3 ∧ Mod (fun _ => False) w o w' o := by
  have hmk := run_makeInts n hn
  have hmul := Tryz.bits_Mul 1 n (by omega) (by omega) w
  rw [Nat.one_mul, Nat.div_eq_of_lt (by omega), Nat.mod_eq_of_lt (by omega)] at hmul
  have hm' := Lib.hid hmul
  clear hmul
  have c1 : IntKind.u64.wrap (n : Int) = (n : Int) := by rw [IntKind.wrap_u64]; omega
  have c2 : IntKind.i64.wrap (n : Int) = (n : Int) := IntWalk.i64_in _ (by omega)
  have c3 : ((n : Int) < 0) = False := by simp
  go_enter Tryz.func91, Tryz.ntmps91
  go_wp2_with fail
  refine hm'.out.mono ?_
  rintro e w1 ⟨rfl, hw1⟩
  rw [hw1]
  clear hw1 w1
  have hB0 : Blk (w.alloc (.cells (Array.replicate n (cv 0)) 3)) w.heap.size (List.replicate n (cv 0)) 3 := Blk.new w _ _
  have hbl0 : Below w.heap.size w (w.alloc (.cells (Array.replicate n (cv 0)) 3)) := (Below.refl _ _).alloc (Nat.le_refl _) _
  have hal : a.block < w.heap.size := ha1
  have hac : (w.alloc (.cells (Array.replicate n (cv 0)) 3)).cell? a = some (cv (-1)) := (hbl0.cell hal).trans ha
  have big : decide ((9223372036854775807 : Int) < (n : Int)) = false := decide_eq_false (by omega)
  go_wp2_with (refine wpList_copy_splice rfl (.tmp 31) (.tmp 32) 31 31 rfl 3 Tryz.underlying31 (by kernel_rfl) (some ⟨w.heap.size, 0, none⟩) (some a) n n 1 c (by rfl) (by rfl) w.heap.size 0 _ 3 hB0 [cv (-1)] ?c1 ?c2 ?c3 ?c4 w.heap.size w hbl0 (Nat.le_refl _) ?_)
  case c1 => simp [Nat.min_eq_left h1]
  case c2 =>
    intro j v hj
    cases j with
    | zero => simp at hj; subst hj; simpa [Addr.add] using hac
    | succ j => simp at hj
  case c3 => simp; omega
  case c4 => intro v hv; simp at hv; subst hv; rfl
  intro w2 hb2 hbl2
  have hB2 : Hid (Blk w2 w.heap.size (repC n 1) 3) := by
    obtain ⟨m, rfl⟩ : ∃ m, n = m + 1 := ⟨n - 1, by omega⟩
    have h3 := hb2.out
    unfold Hid Blk repC
    rw [h3]; simp [splice, List.replicate_succ]
  have hbl2' := Lib.hid hbl2
  clear hb2 hbl2 hB0 hbl0
  go_wp2_with fail
  go_loopg [8] (n - 1) (fun k v wr => ∃ m : Nat, 1 ≤ m ∧ m ≤ n ∧ k = n - m ∧ v = .int .i64 m ∧ RepLoop w o w.heap.size n m wr)
  case atStart => exact ⟨1, by omega, h1, rfl, rfl, hB2.out, hbl2'.out⟩
  case round =>
    obtain ⟨m, hm1, hmn, rfl, rfl, hB, hbl⟩ := hrel
    have hmm := hm1
    by_cases hlt : m < n
    · have y8 : subA (some ⟨w.heap.size, 0, none⟩) m n 1 = some ⟨w.heap.size, m, none⟩ := by
        unfold subA
        rw [if_neg (by omega), Nat.mul_one]
        show some ((⟨w.heap.size, 0, none⟩ : Addr).add m) = _
        congr 1
        unfold Addr.add; split
        · next h0 => rw [h0]
        · simp
      have hcells : ∀ j v, (List.replicate (min m (n - m)) (cv (-1)))[j]? = some v → wr.drew.cell? ((⟨w.heap.size, 0, none⟩ : Addr).add j) = some v := by
        intro j v hj
        have hjm : j < min m (n - m) := by
          have := (List.getElem?_eq_some_iff.1 hj).1; simpa using this
        rw [List.getElem?_replicate, if_pos hjm] at hj
        have e : (⟨w.heap.size, 0, none⟩ : Addr).add j = ⟨w.heap.size, j, none⟩ := by
          unfold Addr.add; split
          · next h0 => rw [h0]
          · simp
        rw [e]
        refine hB.drew.c j v ?_
        unfold repC
        rw [List.getElem?_append_left (by simp; omega), List.getElem?_replicate, if_pos (by omega)]
        exact hj
      have hfit : m + (List.replicate (min m (n - m)) (cv (-1))).length ≤ (repC n m).length := by simp [repC]; omega
      have hlen : (List.replicate (min m (n - m)) (cv (-1))).length = Nat.min m (n - m) := by simp
      have hone : ∀ v ∈ List.replicate (min m (n - m)) (cv (-1)), v.oneCell' = true := by intro v hv; rw [List.eq_of_mem_replicate hv]; rfl
      have hsp : splice (repC n m) m (List.replicate (min m (n - m)) (cv (-1))) = repC n (m + min m (n - m)) := by
        unfold splice repC
        rw [List.take_append_of_le_length (by simp), List.take_of_length_le (by simp), List.length_replicate, List.drop_append]
        simp only [List.length_replicate, List.drop_replicate, List.replicate_append_replicate]
        rw [show m - (m + min m (n - m)) = 0 by omega, List.replicate_zero, List.nil_append, ← List.append_assoc, List.replicate_append_replicate, show n - m - (m + min m (n - m) - m) = n - (m + min m (n - m)) by omega]
      have hlt1 : (0 : Int) ≤ (m : Int) := by omega
      have hBd : wr.drew.heap[w.heap.size]? = some (.cells (repC n m).toArray 3 (0, 0)) := hB
      have hbld := hbl.drew
      have hlt2 : (m : Int) ≤ (n : Int) := by omega
      obtain ⟨K, hK⟩ : ∃ K, K = min m (n - m) := ⟨_, rfl⟩
      rw [← hK] at hcells hfit hlen hone hsp
      obtain ⟨w4, hcp, hB4, hb4⟩ : ∃ w4, (Builtin.copy_ #[31, 31] 3 #[.slice (some ⟨w.heap.size, m, none⟩) (n - m) (n - m), .slice (some ⟨w.heap.size, 0, none⟩) m n]).run Tryz.prog wr.drew = .ok (.int .i64 (K : Int)) w4 ∧ Blk w4 w.heap.size (repC n (m + K)) 3 ∧ Below w.heap.size w w4 := by
        have hr := run_copy_row (P := Tryz.prog) wr.drew 31 31 3 3 w.heap.size m (n - m) (n - m) ⟨w.heap.size, 0, none⟩ m n (repC n m).toArray 3 _ Tryz.underlying31 (by kernel_rfl) hBd hlen hcells (by simpa using hfit) hone
        refine ⟨wr.drew.setRow w.heap.size ((repC n m).toArray.toList.take m ++ List.replicate K (cv (-1)) ++ (repC n m).toArray.toList.drop (m + (List.replicate K (cv (-1))).length)).toArray, ?_, ?_, below_setRow hbld (Nat.le_refl _) _⟩
        · rw [hr]; simp [goInt]
        · have h5 := setRow_heap wr.drew w.heap.size (repC n m).toArray ((repC n m).toArray.toList.take m ++ List.replicate K (cv (-1)) ++ (repC n m).toArray.toList.drop (m + (List.replicate K (cv (-1))).length)).toArray 3 _ hBd
          unfold Blk
          rw [h5, ← hsp]
          simp [splice]
      have hK1 : 1 ≤ K := by omega
      have hK2 : m + K ≤ n := by omega
      have hKK := Lib.hid hK
      have hb4' := Lib.hid hb4
      have hB4' := Lib.hid hB4
      have w1 : IntKind.i64.wrap ((m : Int) + (K : Int)) = (m : Int) + K := IntWalk.i64_in _ (by omega)
      clear hcells hfit hlen hone hsp hK hb4 hB4
      go_wp2_with fail
      go_region
      go_wp2
      go_roundg (n - (m + K))
      case measure => omega
      case rel => exact ⟨m + K, by omega, hK2, rfl, by simp, hB4'.out, hb4'.out⟩
    · have e : m = n := by omega
      go_wp2
      go_ret
      refine ⟨_, rfl, Nat.le_refl _, ?_, Mod.below hwf hbl⟩
      have : repC n m = List.replicate n (cv (-1)) := by unfold repC; rw [e]; simp
      rw [← this]; exact hB
end Go.Proofs.YtjcaidbkbdkpeaaGreatDoor
