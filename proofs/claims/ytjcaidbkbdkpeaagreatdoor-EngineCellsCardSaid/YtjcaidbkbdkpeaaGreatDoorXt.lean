/- A word's number by its name; an engine that is none. -/
import Derived.Test.YtjcaidbkbdkpeaaGreatDoorShown
namespace Go.Proofs.YtjcaidbkbdkpeaaGreatDoor
open Go Go.RowKit Go.Rh

/-- The name stands at the place i, and at no place before it. -/
def nameAt (s : ByteArray) (i : Nat) : Bool := (((allKeys 4)[i]?.map (fun x => x.1.data.toList == s.data.toList)) == some true) && ((allKeys 4).take i).all (fun x => !(x.1.data.toList == s.data.toList))

theorem disown2 {w w1 w2 : World} {o o1 : Owner} (m : Mod (fun _ => False) w o w1 o) (m2 : Mod (fun _ => False) w1 o1 w2 o1) : Mod (fun _ => False) w o w2 o :=
  ⟨m2.os.trans m.os, m2.tape.trans m.tape, m2.output.trans m.output, Nat.le_trans m.size m2.size, fun b hb => m.wf b (Nat.le_trans m2.size hb), fun _ _ => rfl, fun b hb hT => (m2.keep b (Nat.lt_of_lt_of_le hb m.size) (fun h => h)).trans (m.keep b hb hT)⟩

set_option maxHeartbeats 2000000 in
set_option maxRecDepth 100000 in
theorem law_xt (w : World) (o : Owner) (hwf : Wf w o) (s : ByteArray) (i : Nat) (hi : i < 180) (hs : nameAt s i = true) :
    Calls Tryz.prog 10 #[.string s] w fun e w' => e = .returned (.int .i64 ((i : Int) + 1)) ∧ Mod (fun _ => False) w o w' o := by
  obtain ⟨g, hg0, hg⟩ := fresh_owner hwf
  unfold nameAt at hs
  rw [Bool.and_eq_true] at hs
  obtain ⟨hs1, hs2⟩ := hs
  have hS1 := Lib.hid hs1
  have hS2 := Lib.hid hs2
  clear hs1 hs2
  go_enter Tryz.func10, Tryz.ntmps10
  go_wp2_with fail
  refine (ref_All w o hwf g hg0).mono ?_
  rintro e w2 ⟨v, L, o2, rfl, m2, hr, hkeys⟩
  have hLl : L.length = 180 := by have := congrArg List.length hkeys; rw [List.length_map, allKeys4_length] at this; exact this
  obtain ⟨A, ac, rfl, hAlt, hAc⟩ := row_at0 hr (by omega)
  rw [hLl]
  have hkeys' := Lib.hid hkeys
  have hAc' := Lib.hid hAc
  have hLl' := Lib.hid hLl
  have hm2 := Lib.hid (disown hwf m2 hg)
  have hwf2 := m2.wf
  clear hkeys hAc hLl hr m2
  go_wp2_with fail
  go_loopg [7] (i + 1) (fun n v wr => ∃ j : Nat, j ≤ i ∧ n = i + 1 - j ∧ v = .int .i64 j ∧ Mod (fun _ => False) w2 o2 wr o2)
  case atStart => exact ⟨0, by omega, by omega, rfl, Mod.refl _ hwf2⟩
  case round =>
    obtain ⟨j, hj, rfl, rfl, m3⟩ := hrel
    obtain ⟨b, hb⟩ : ∃ b, L[j]? = some b := ⟨_, List.getElem?_eq_getElem (by rw [hLl'.out]; omega)⟩
    have hkey : (allKeys 4)[j]? = some b.key := by rw [← hkeys'.out, List.getElem?_map, hb]; rfl
    have hAw : ∀ i u, (L.flatMap Bi.cells)[i]? = some u → wr.cell? ⟨A, i, none⟩ = some u := fun i u hu => by
      rw [m3.cells A i hAlt]; exact hAc'.out i u hu
    obtain ⟨v0, v1, v2, v3, v4⟩ := sub_field hb hAw
    have nA : wr.heap.size ≠ A := by have := m3.size; omega
    have hj180 : j < 180 := by omega
    have y1 : IntKind.i64.wrap ((j : Int) + 1) = (j : Int) + 1 := IntWalk.i64_in _ (by omega)
    have hX := m3.alloc (.cells (biL b).toArray 73)
    rcases Nat.lt_or_ge j i with hlt | hge
    · have hne : (b.name.toList == s.toList) = false := by
        have h1 := List.all_eq_true.1 hS2.out b.key (List.mem_of_getElem? (i := j) (by rw [List.getElem?_take_of_lt hlt]; exact hkey))
        simpa [Bi.key, Lib.toList_data] using h1
      obtain ⟨nm, kd, nn, b1, b2⟩ := b
      dsimp only at *
      clear hb hkey hAw hj
      go_wp2
      go_roundg (i + 1 - (j + 1))
      case measure => omega
      case rel => exact ⟨j + 1, by omega, rfl, by go_num, hX⟩
    · have hji : j = i := by omega
      subst hji
      have heq : (b.name.toList == s.toList) = true := by
        have h1 := hS1.out
        rw [hkey] at h1
        simpa [Bi.key, Lib.toList_data] using h1
      obtain ⟨nm, kd, nn, b1, b2⟩ := b
      dsimp only at *
      clear hb hkey hAw hj hS1 hS2
      go_wp2
      go_ret
      exact ⟨rfl, disown2 hm2.out hX⟩
set_option maxHeartbeats 400000 in
theorem nil_Step (w : World) (o : Owner) (hwf : Wf w o) : Calls Tryz.prog 20 #[.pointer none] w fun e w' => e = .returned (stat 5 0 0) ∧ Mod (fun _ => False) w o w' o := by
  obtain ⟨b0, b1, b2, bf⟩ := (Blk.new w [.int .i64 0, .int .i64 0, .int .i64 0] 42).three
  go_enter Tryz.func20, Tryz.ntmps20
  go_wp2
  refine bodyPost_ret (v := stat 5 0 0) (by simp [results, Tryz.results20, go_sem, b0, b1, b2]) rfl ?_
  refine ⟨rfl, ?_⟩
  (repeat (refine Mod.setNew ?_ _ _ (by simp)))
  exact (Mod.refl (fun _ => False) hwf).alloc _
set_option maxHeartbeats 400000 in
theorem nil_find (w : World) (x : Int) : Calls Tryz.prog 38 #[.pointer none, .int .i64 x] w fun e w' => e = .returned (.pointer none) ∧ w = w' := by
  go_enter Tryz.func38, Tryz.ntmps38
  go_wp2
  go_ret
  exact ⟨rfl, rfl⟩
set_option maxHeartbeats 400000 in
theorem nil_Exec (w : World) (x : Int) : Calls Tryz.prog 12 #[.pointer none, .int .i64 x] w fun e w' => e = .returned (.int .i64 2) ∧ w = w' := by
  go_enter Tryz.func12, Tryz.ntmps12
  go_wp2_with fail
  refine (nil_find w x).mono ?_
  rintro e w' ⟨rfl, rfl⟩
  go_wp2
  go_ret
  exact ⟨rfl, rfl⟩
set_option maxHeartbeats 400000 in
theorem nil_State (w : World) : Calls Tryz.prog 15 #[.pointer none] w fun e w' => e = .returned (.pointer none) ∧ w = w' := by
  go_enter Tryz.func15, Tryz.ntmps15
  go_wp2
  go_ret
  exact ⟨rfl, rfl⟩
end Go.Proofs.YtjcaidbkbdkpeaaGreatDoor
