/- An engine that has the words of the table. -/
import Derived.Test.YtjcaidbkbdkpeaaGreatDoorAll
import Derived.Test.YtjcaidbkbdkpeaaGreatDoorMade
import Derived.Test.YtjcaidbkbdkpeaaGreatDoorAdd
namespace Go.Proofs.YtjcaidbkbdkpeaaGreatDoor
open Go Go.RowKit Go.Rh

def keyW (x : ByteArray × Int × Int) : Wd := ⟨x.2.1, x.2.2, 0⟩
/-- The words of the table. -/
def builtW : List Wd := (allKeys 4).map keyW

theorem kindKeys_may {kind : Int} {x : ByteArray × Int × Int} (hx : x ∈ kindKeys kind) (h1 : 1 ≤ kind) (h4 : kind ≤ 4) : 1 ≤ x.2.1 ∧ x.2.1 ≤ 4 ∧ ∃ m : Nat, x.2.2 = m + 1 ∧ m < nOf x.2.1 := by
  obtain ⟨i, hi⟩ := List.mem_iff_getElem?.1 hx
  have hl : i < (kindKeys kind).length := (List.getElem?_eq_some_iff.1 hi).1
  rw [kindKeys_length] at hl
  obtain ⟨s, hs⟩ : ∃ s, (refNames kind)[i]? = some s := ⟨_, List.getElem?_eq_getElem (by rw [refNames_length]; exact hl)⟩
  rw [kindKeys_get kind i s hs] at hi
  obtain rfl := Option.some.inj hi
  exact ⟨h1, h4, i, rfl, hl⟩
theorem allKeys_may : ∀ (j : Nat), j ≤ 4 → ∀ x ∈ allKeys j, 1 ≤ x.2.1 ∧ x.2.1 ≤ 4 ∧ ∃ m : Nat, x.2.2 = m + 1 ∧ m < nOf x.2.1
  | 0, _, x, hx => by simp [allKeys] at hx
  | j + 1, hj, x, hx => by
    simp only [allKeys, List.mem_append] at hx
    rcases hx with hx | hx
    · exact allKeys_may j (by omega) x hx
    · exact kindKeys_may hx (by omega) (by omega)
theorem allKeys4_length : (allKeys 4).length = 180 := by
  simp only [allKeys, List.length_append, kindKeys_length]
  rfl
theorem builtW_length : builtW.length = 180 := by unfold builtW; rw [List.length_map, allKeys4_length]

theorem sub_field {w : World} {A j : Nat} {b : Bi} {L : List Bi} (hb : L[j]? = some b) (hc : ∀ i u, (L.flatMap Bi.cells)[i]? = some u → w.cell? ⟨A, i, none⟩ = some u) :
    w.cell? ⟨A, j * 5, none⟩ = some (.string b.name) ∧ w.cell? ⟨A, j * 5 + 1, none⟩ = some (.int .i64 b.kind) ∧ w.cell? ⟨A, j * 5 + 2, none⟩ = some (.int .i64 b.n) ∧ w.cell? ⟨A, j * 5 + 3, none⟩ = some (.bool b.now) ∧ w.cell? ⟨A, j * 5 + 4, none⟩ = some (.bool b.only) := by
  have hg : ∀ t, t < 5 → w.cell? ⟨A, j * 5 + t, none⟩ = (Bi.cells b)[t]? := by
    intro t ht
    have h1 := flat_get Bi.cells 5 Bi.cells_length L j t b hb ht
    have h2 : (Bi.cells b)[t]? = some ((Bi.cells b)[t]'(by rw [Bi.cells_length]; exact ht)) := List.getElem?_eq_getElem _
    rw [h2]
    exact hc _ _ (h1.trans h2)
  exact ⟨hg 0 (by omega), hg 1 (by omega), hg 2 (by omega), hg 3 (by omega), hg 4 (by omega)⟩

theorem mod_fresh {T : Nat → Prop} {w w1 : World} {o o1 : Owner} {k : Nat} (hk : ∀ b, o b ≤ k) (m : Mod T w o w1 o1) (hT : ∀ x, T x → k < x) : Mod (fun _ => False) w o w1 o1 :=
  ⟨m.os, m.tape, m.output, m.size, m.wf, m.own, fun b hb _ => m.keep b hb (fun h => by have := hk b; have := hT _ h; omega)⟩

def eng0 : Eng := ⟨core0, [], st0 1024, inp0⟩
/-- An engine with these words, and nothing else. -/
def engW (ws : List Wd) : Eng := ⟨{ core0 with words := ws }, [], st0 1024, inp0⟩

set_option maxHeartbeats 4000000 in
set_option maxRecDepth 100000 in
theorem law_built (w : World) (o : Owner) (hwf : Wf w o) (hE : Env w o) (k : Nat) (hk : ∀ b, o b ≤ k) :
    Calls Tryz.prog 8 #[] w fun e w' => ∃ g, e = .returned (.pointer (some ⟨g, 0, none⟩)) ∧ ∃ h o', h.g = g ∧ Mod (fun _ => False) w o w' o' ∧ EngAt w' o' k h (engW builtW) := by
  go_enter Tryz.func8, Tryz.ntmps8
  go_wp2_with fail
  refine (law_made w o hwf k).mono ?_
  rintro e w1 ⟨g, rfl, h, o1, rfl, m1, he1⟩
  have hm1 := m1.mono (T' := fun x => k < x) (fun x hx => hx.1)
  have hE1 := hE.kept hm1 (by omega)
  go_wp2_with fail
  refine (ref_All w1 o1 m1.wf (k + 8) (by omega)).mono ?_
  rintro e w2 ⟨v, L, o2, rfl, m2, hr, hkeys⟩
  have he2 : EngAt w2 o2 k h (engW []) := he1.kept m2 (fun x hx h0 => by subst h0; have := hx.2; omega)
  have hE2 := hE1.kept m2 (by omega)
  have hm2 := hm1.trans (m2.mono (T' := fun x => k < x) (fun x hx => by omega))
  have hLl : L.length = 180 := by have := congrArg List.length hkeys; rw [List.length_map, allKeys4_length] at this; exact this
  obtain ⟨A, ac, rfl, hAlt, hAc⟩ := row_at0 hr (by omega)
  have hoA : o2 A = k + 8 := hr.2 A rfl
  rw [hLl]
  have hkeys' := Lib.hid hkeys
  have hAc' := Lib.hid hAc
  have hLl' := Lib.hid hLl
  have hm2' := Lib.hid hm2
  clear hkeys hAc hLl hr hm2 m1 m2 hm1 hE1
  go_wp2_with fail
  go_loopg [9] 180 (fun n v wr => ∃ (j : Nat) (o3 : Owner), j ≤ 180 ∧ n = 180 - j ∧ v = .int .i64 j ∧ Mod (InE k) w2 o2 wr o3 ∧ EngAt wr o3 k h (engW (builtW.take j)))
  case atStart => exact ⟨0, o2, by omega, by omega, rfl, Mod.refl _ hm2'.out.wf, he2⟩
  case round =>
    obtain ⟨j, o3, hj, rfl, rfl, m3, he3⟩ := hrel
    by_cases hlt : j < 180
    · obtain ⟨b, hb⟩ : ∃ b, L[j]? = some b := ⟨_, List.getElem?_eq_getElem (by rw [hLl'.out]; exact hlt)⟩
      have hkey : (allKeys 4)[j]? = some b.key := by rw [← hkeys'.out, List.getElem?_map, hb]; rfl
      have hAw : ∀ i u, (L.flatMap Bi.cells)[i]? = some u → wr.cell? ⟨A, i, none⟩ = some u := fun i u hu => by
        rw [m3.cellsOf A hAlt (by rw [hoA]; rintro ⟨h1, h2⟩; omega)]; exact hAc'.out i u hu
      obtain ⟨v0, v1, v2, v3, v4⟩ := sub_field hb hAw
      have hw1 : builtW.take (j + 1) = builtW.take j ++ [⟨b.kind, b.n, 0⟩] := by
        have h1 : builtW[j]? = some ⟨b.kind, b.n, 0⟩ := by unfold builtW; rw [List.getElem?_map, hkey]; rfl
        rw [List.take_add_one, h1]; rfl
      have hwl : (builtW.take j).length = j := by rw [List.length_take, builtW_length]; omega
      have hmay : ∀ C : Core, MayW C ⟨b.kind, b.n, 0⟩ := fun C => by
        obtain ⟨h1, h2, h3⟩ := allKeys_may 4 (by omega) b.key (List.mem_of_getElem? hkey)
        exact .inl ⟨h1, h2, h3⟩
      have hX := (Mod.refl (fun _ => False) m3.wf).alloc (.cells (biL b).toArray 73)
      have hadd := e_Add (wr.alloc (.cells (biL b).toArray 73)) o3 k h _ (he3.same hX) hX.wf ((hE2.kept m3 (notInE0 rfl)).kept hX (fun h => h)) ⟨b.kind, b.n, 0⟩ (hmay _) (by show (builtW.take j).length < 600; omega)
      have hadd' := Lib.hid hadd
      have hw1' := Lib.hid hw1
      have nA : wr.heap.size ≠ A := by have := m3.size; omega
      have hwl' := Lib.hid hwl
      obtain ⟨nm, kd, nn, b1, b2⟩ := b
      dsimp only at *
      clear hb hkey hAw hw1 hmay hadd hwl
      have y1 : IntKind.i64.wrap ((j : Int) + 1) = (j : Int) + 1 := IntWalk.i64_in _ (by omega)
      go_wp2_with fail
      refine hadd'.out.mono ?_
      have e1 : (engW (builtW.take j)).c.words.length = j := hwl'.out
      rw [e1]
      rintro e w5 ⟨rfl, o5, m5, he5⟩
      have hXB : Box (wr.alloc (.cells #[.string nm, .int .i64 kd, .int .i64 nn, .bool b1, .bool b2] 73)) o3 wr.heap.size (biL ⟨nm, kd, nn, b1, b2⟩) 73 := ⟨Blk.new wr (biL ⟨nm, kd, nn, b1, b2⟩) _, m3.wf _ (Nat.le_refl _)⟩
      have hm35 := (m3.trans (hX.mono (T' := InE k) (fun _ h => h.elim))).trans m5
      have he5' : EngAt w5 o5 k h (engW (builtW.take (j + 1))) := by rw [hw1'.out]; exact he5
      clear e1
      go_wp2
      go_roundg (180 - (j + 1))
      case measure => omega
      case rel => exact ⟨j + 1, o5, by omega, rfl, by go_num, hm35, he5'⟩
    · have hj8 : j = 180 := by omega
      subst hj8
      have htk : builtW.take 180 = builtW := List.take_of_length_le (by rw [builtW_length]; omega)
      rw [htk] at he3
      clear htk
      go_wp2
      go_ret
      exact ⟨_, rfl, h, o3, rfl, mod_fresh hk (hm2'.out.trans (m3.mono (fun x hx => hx.1))) (fun _ h => h), he3⟩
end Go.Proofs.YtjcaidbkbdkpeaaGreatDoor
