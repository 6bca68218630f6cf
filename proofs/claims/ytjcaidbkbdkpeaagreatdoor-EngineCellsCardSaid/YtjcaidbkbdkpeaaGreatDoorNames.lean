/- The table's names: none is empty. -/
import Derived.Test.YtjcaidbkbdkpeaaGreatDoorEngB
import Derived.Test.YtjcaidbkbdkpeaaGreatDoorShelf
import Derived.Test.YtjcaidbkbdkpeaaGreatDoorSplit
namespace Go.Proofs.YtjcaidbkbdkpeaaGreatDoor
open Go Go.RowKit Go.Rh

/-- The library's own variable, which no one writes. -/
def Env (w : World) (o : Owner) : Prop := o 3 = 0 ∧ 3 < w.heap.size ∧ ∃ m, w.cell? ⟨3, 0, none⟩ = some (.int .i64 m)
theorem Env.kept {w w1 : World} {o o1 : Owner} {T : Nat → Prop} (h : Env w o) (m : Mod T w o w1 o1) (h0 : ¬ T 0) : Env w1 o1 :=
  ⟨(m.own 3 h.2.1).trans h.1, Nat.lt_of_lt_of_le h.2.1 m.size, h.2.2.elim fun x hx => ⟨x, by rw [m.cellsOf 3 h.2.1 (by rw [h.1]; exact h0)]; exact hx⟩⟩

theorem split_all (S : ByteArray) (N : Nat) (w : World) (m : Int) (hm : w.cell? ⟨3, 0, none⟩ = some (.int .i64 m)) (h1 : decide (S.size < 4294967281) = true)
    (hall : ((spl S.data.toList).all (fun x => decide (x.length ≠ 0)) && decide ((spl S.data.toList).length = N)) = true) :
    Calls Tryz.prog 116 #[.string S, .string ⟨#[32]⟩] w fun e w' => ∃ L : List ByteArray, e = .returned (.slice (some ⟨w.heap.size, 0, none⟩) N N) ∧ w' = w.alloc (.cells (L.map Value.string).toArray 9) ∧ L.length = N ∧ (L.all fun x => decide (x.size ≠ 0)) = true := by
  obtain ⟨q1, q2, q3⟩ := split_pieces S N hall
  refine (Tryz.strings_Split S sp m w (of_decide_eq_true h1) hm (by decide)).mono ?_
  rintro e w1 ⟨he, hw⟩
  rw [q1] at he
  exact ⟨_, he, hw, q2, q3⟩

def nOf (kind : Int) : Nat := if kind = 1 then 107 else if kind = 2 then 9 else if kind = 3 then 17 else 47

set_option maxHeartbeats 2000000 in
set_option maxRecDepth 100000 in
theorem names1 (w : World) (o : Owner) (hwf : Wf w o) (hE : Env w o) :
    Calls Tryz.prog 90 #[.int .i64 1] w fun e w' => ∃ L : List ByteArray, e = .returned (.slice (some ⟨w.heap.size, 0, none⟩) 107 107) ∧ w' = w.alloc (.cells (L.map Value.string).toArray 9) ∧ L.length = 107 ∧ (L.all fun x => decide (x.size ≠ 0)) = true := by
  obtain ⟨m, hm⟩ := hE.2.2
  go_enter Tryz.func90, Tryz.ntmps90
  go_wp2_with fail
  refine (split_all _ 107 w m hm (by kernel_rfl) (by kernel_rfl)).mono ?_
  rintro e w1 ⟨L, rfl, rfl, h1, h2⟩
  have h1' := Lib.hid h1
  have h2' := Lib.hid h2
  clear h1 h2
  go_wp2
  go_ret
  exact ⟨L, rfl, rfl, h1'.out, h2'.out⟩
set_option maxHeartbeats 2000000 in
set_option maxRecDepth 100000 in
theorem names2 (w : World) (o : Owner) (hwf : Wf w o) (hE : Env w o) :
    Calls Tryz.prog 90 #[.int .i64 2] w fun e w' => ∃ L : List ByteArray, e = .returned (.slice (some ⟨w.heap.size, 0, none⟩) 9 9) ∧ w' = w.alloc (.cells (L.map Value.string).toArray 9) ∧ L.length = 9 ∧ (L.all fun x => decide (x.size ≠ 0)) = true := by
  obtain ⟨m, hm⟩ := hE.2.2
  go_enter Tryz.func90, Tryz.ntmps90
  go_wp2_with fail
  refine (split_all _ 9 w m hm (by kernel_rfl) (by kernel_rfl)).mono ?_
  rintro e w1 ⟨L, rfl, rfl, h1, h2⟩
  have h1' := Lib.hid h1
  have h2' := Lib.hid h2
  clear h1 h2
  go_wp2
  go_ret
  exact ⟨L, rfl, rfl, h1'.out, h2'.out⟩
set_option maxHeartbeats 2000000 in
set_option maxRecDepth 100000 in
theorem names3 (w : World) (o : Owner) (hwf : Wf w o) (hE : Env w o) :
    Calls Tryz.prog 90 #[.int .i64 3] w fun e w' => ∃ L : List ByteArray, e = .returned (.slice (some ⟨w.heap.size, 0, none⟩) 17 17) ∧ w' = w.alloc (.cells (L.map Value.string).toArray 9) ∧ L.length = 17 ∧ (L.all fun x => decide (x.size ≠ 0)) = true := by
  obtain ⟨m, hm⟩ := hE.2.2
  go_enter Tryz.func90, Tryz.ntmps90
  go_wp2_with fail
  refine (split_all _ 17 w m hm (by kernel_rfl) (by kernel_rfl)).mono ?_
  rintro e w1 ⟨L, rfl, rfl, h1, h2⟩
  have h1' := Lib.hid h1
  have h2' := Lib.hid h2
  clear h1 h2
  go_wp2
  go_ret
  exact ⟨L, rfl, rfl, h1'.out, h2'.out⟩
set_option maxHeartbeats 2000000 in
set_option maxRecDepth 100000 in
theorem names4 (w : World) (o : Owner) (hwf : Wf w o) (hE : Env w o) :
    Calls Tryz.prog 90 #[.int .i64 4] w fun e w' => ∃ L : List ByteArray, e = .returned (.slice (some ⟨w.heap.size, 0, none⟩) 47 47) ∧ w' = w.alloc (.cells (L.map Value.string).toArray 9) ∧ L.length = 47 ∧ (L.all fun x => decide (x.size ≠ 0)) = true := by
  obtain ⟨m, hm⟩ := hE.2.2
  go_enter Tryz.func90, Tryz.ntmps90
  go_wp2_with fail
  refine (split_all _ 47 w m hm (by kernel_rfl) (by kernel_rfl)).mono ?_
  rintro e w1 ⟨L, rfl, rfl, h1, h2⟩
  have h1' := Lib.hid h1
  have h2' := Lib.hid h2
  clear h1 h2
  go_wp2
  go_ret
  exact ⟨L, rfl, rfl, h1'.out, h2'.out⟩

theorem names_any (w : World) (o : Owner) (hwf : Wf w o) (hE : Env w o) (kind : Int) (hk1 : 1 ≤ kind) (hk4 : kind ≤ 4) :
    Calls Tryz.prog 90 #[.int .i64 kind] w fun e w' => ∃ L : List ByteArray, e = .returned (.slice (some ⟨w.heap.size, 0, none⟩) (nOf kind) (nOf kind)) ∧ w' = w.alloc (.cells (L.map Value.string).toArray 9) ∧ L.length = nOf kind ∧ (L.all fun x => decide (x.size ≠ 0)) = true := by
  have hk : kind = 1 ∨ kind = 2 ∨ kind = 3 ∨ kind = 4 := by omega
  rcases hk with rfl | rfl | rfl | rfl
  · exact names1 w o hwf hE
  · exact names2 w o hwf hE
  · exact names3 w o hwf hE
  · exact names4 w o hwf hE

set_option maxHeartbeats 2000000 in
set_option maxRecDepth 100000 in
/-- The name of a word that the table has is not empty. -/
theorem name_some (w : World) (o : Owner) (hwf : Wf w o) (hE : Env w o) (kind : Int) (hk1 : 1 ≤ kind) (hk4 : kind ≤ 4) (n : Nat) (hn : n < nOf kind) :
    Calls Tryz.prog 57 #[.int .i64 kind, .int .i64 ((n : Int) + 1)] w fun e w' => ∃ s : ByteArray, e = .returned (.string s) ∧ Mod (fun _ => False) w o w' o ∧ s.size ≠ 0 := by
  have h107 : nOf kind ≤ 107 := by unfold nOf; split <;> (try split) <;> (try split) <;> omega
  have hcall := Lib.hid (names_any w o hwf hE kind hk1 hk4)
  generalize hN : nOf kind = N at *
  clear hN hk1 hk4
  have x1 : IntKind.i64.wrap ((n : Int) + 1 - 1) = (n : Int) := by rw [Int.add_sub_cancel]; exact IntWalk.i64_in _ (by omega)
  go_enter Tryz.func57, Tryz.ntmps57
  go_wp2_with fail
  refine hcall.out.mono ?_
  rintro e w1 ⟨L, rfl, rfl, h1, h2⟩
  have hLn : n < L.length := by omega
  have hcell : (w.alloc (.cells (L.map Value.string).toArray 9)).cell? ⟨w.heap.size, n, none⟩ = some (.string L[n]) := (Blk.new w (L.map Value.string) 9).c n _ (by simp [hLn])
  have hsz : L[n].size ≠ 0 := by
    have := List.all_eq_true.1 h2 L[n] (List.getElem_mem hLn)
    simpa using this
  have hsz' := Lib.hid hsz
  generalize L[n] = s at hcell hsz'
  clear hsz h2
  go_wp2
  go_ret
  exact ⟨s, rfl, (Mod.refl _ hwf).alloc _, fun h0 => hsz'.out (by rw [h0]; rfl)⟩
end Go.Proofs.YtjcaidbkbdkpeaaGreatDoor
