/- A definition is laid down. -/
import Derived.Test.YtjcaidbkbdkpeaaGreatDoorAdd
import Derived.Test.YtjcaidbkbdkpeaaGreatDoorThr
import Derived.Test.YtjcaidbkbdkpeaaGreatDoorIns
namespace Go.Proofs.YtjcaidbkbdkpeaaGreatDoor
open Go Go.RowKit Go.Rh

def enc1 (i : In1) : List Int := [i.a * 256 + i.op, i.x]
def encI (d : List In1) : List Int := d.flatMap enc1

set_option maxHeartbeats 4000000 in
set_option maxRecDepth 100000 in
theorem e_lay (w : World) (o : Owner) (k : Nat) (h : Hd) (E : Eng) (he : EngAt w o k h E) (hwf : Wf w o) (ab c : Nat) (d : List In1) (hab : ab < w.heap.size) (hab0 : ¬ InE k (o ab)) (hv : ∀ j u, (d.flatMap In1.cells)[j]? = some u → w.cell? ⟨ab, j, none⟩ = some u)
    (hd : ∀ i ∈ d, 0 ≤ i.op ∧ i.op < 256 ∧ 0 ≤ i.a ∧ i.a ≤ 100000) (hlen : d.length ≤ 500) (hroom : E.c.code.length + 1000 ≤ 400000) (hends : E.c.ends.length < 300) :
    Calls Tryz.prog 37 #[gp h, .slice (some ⟨ab, 0, none⟩) d.length c] w fun e w' => e = .returned (.tuple #[]) ∧ ∃ o', Mod (InE k) w o w' o' ∧ EngAt w' o' k h { E with c := { E.c with code := E.c.code ++ encI d, ends := E.c.ends ++ [((E.c.code ++ encI d).length : Int)] } } := by
  obtain ⟨n, hnd⟩ : ∃ n, n = d.length := ⟨_, rfl⟩
  rw [← hnd] at hlen ⊢
  have hnd' := Lib.hid hnd
  have hv' := Lib.hid hv
  have hd' := Lib.hid hd
  have hr' := Lib.hid hroom
  clear hnd hv hd hroom
  go_enter Tryz.func37, Tryz.ntmps37
  go_wp2_with fail
  go_loopg [8] n (fun g v wr => ∃ (j : Nat) (o1 : Owner), j ≤ n ∧ g = n - j ∧ v = .int .i64 j ∧ Mod (· = k + 3) w o wr o1 ∧ EngAt wr o1 k h { E with c := { E.c with code := E.c.code ++ encI (d.take j) } })
  case atStart => exact ⟨0, o, by omega, by omega, rfl, Mod.refl _ hwf, by simpa [encI] using he⟩
  case round =>
    obtain ⟨j, o1, hj, rfl, rfl, hm1, he1⟩ := hrel
    obtain ⟨C0, hC0⟩ : ∃ C0, C0 = E.c.code ++ encI (d.take j) := ⟨_, rfl⟩
    rw [← hC0] at he1
    obtain ⟨q0, q1, q2, q3, q4, vc, ve, vw, hb, r1, r2, r3⟩ := he1.1
    dsimp only at q2 q3 q4 hb r1 r2 r3
    obtain ⟨ac, cc, rfl, _⟩ := r1.len
    obtain ⟨ae, ce, rfl, _⟩ := r2.len
    obtain ⟨aw, cw, rfl, _⟩ := r3.len
    have c0 := hb.c 0 _ rfl
    have c1 := hb.c 1 _ rfl
    have fz := hb.frozen
    by_cases hlt : j < n
    · obtain ⟨i1, hi1⟩ : ∃ i1, d[j]? = some i1 := ⟨_, List.getElem?_eq_getElem (by have := hnd'.out; omega)⟩
      obtain ⟨b0, b1, b2, b3⟩ := hd'.out i1 (List.mem_of_getElem? hi1)
      have hvv : ∀ t, t < 3 → wr.cell? ⟨ab, j * 3 + t, none⟩ = (In1.cells i1)[t]? := by
        intro t ht
        have h1 := flat_get In1.cells 3 In1.cells_length d j t i1 hi1 ht
        have h2 : (In1.cells i1)[t]? = some ((In1.cells i1)[t]'(by rw [In1.cells_length]; exact ht)) := List.getElem?_eq_getElem _
        rw [h2, hm1.cellsOf ab hab (by intro h0; exact hab0 ⟨by omega, by omega⟩)]
        exact hv'.out _ _ (h1.trans h2)
      have v0 : wr.cell? ⟨ab, j * 3, none⟩ = some (.int .u8 i1.op) := hvv 0 (by omega)
      have v1 : wr.cell? ⟨ab, j * 3 + 1, none⟩ = some (.int .i64 i1.a) := hvv 1 (by omega)
      have v2 : wr.cell? ⟨ab, j * 3 + 2, none⟩ = some (.int .i64 i1.x) := hvv 2 (by omega)
      have n1 : wr.heap.size ≠ h.g := by have := hb.lt; omega
      clear hvv
      have hi1' := Lib.hid hi1
      clear hi1
      have z1 := or_bits i1.a i1.op b0 b1 b2 b3
      have z3 : IntKind.i64.wrap i1.op = i1.op := IntWalk.i64_in _ (by omega)
      have z2 : IntKind.i64.wrap (i1.a * 256) = i1.a * 256 := IntWalk.i64_in _ (by omega)
      go_wp2_with fail
      have hmY := (((Mod.refl (· = k + 3) hm1.wf).alloc (.cells #[.int .u8 i1.op, .int .i64 i1.a, .int .i64 i1.x] 35)).alloc (.cells #[.int .i64 (i1.a * 256 + i1.op), .int .i64 i1.x] 27)).drew
      have hbY := ((hb.alloc (.cells #[.int .u8 i1.op, .int .i64 i1.a, .int .i64 i1.x] 35)).alloc (.cells #[.int .i64 (i1.a * 256 + i1.op), .int .i64 i1.x] 27)).drew
      have cA := (hb.alloc (.cells #[.int .u8 i1.op, .int .i64 i1.a, .int .i64 i1.x] 35)).c 0 _ rfl
      have cB := ((hb.alloc (.cells #[.int .u8 i1.op, .int .i64 i1.a, .int .i64 i1.x] 35)).alloc (.cells #[.int .i64 (i1.a * 256 + i1.op), .int .i64 i1.x] 27)).c 0 _ rfl
      have hrow := ((r1.alloc (.cells #[.int .u8 i1.op, .int .i64 i1.a, .int .i64 i1.x] 35)).alloc (.cells #[.int .i64 (i1.a * 256 + i1.op), .int .i64 i1.x] 27)).drew
      have hr2 := ((r2.alloc (.cells #[.int .u8 i1.op, .int .i64 i1.a, .int .i64 i1.x] 35)).alloc (.cells #[.int .i64 (i1.a * 256 + i1.op), .int .i64 i1.x] 27)).drew
      have hr3 := ((r3.alloc (.cells #[.int .u8 i1.op, .int .i64 i1.a, .int .i64 i1.x] 35)).alloc (.cells #[.int .i64 (i1.a * 256 + i1.op), .int .i64 i1.x] 27)).drew
      have hy := (Rd.new (size := 1) (wr.alloc (.cells #[.int .u8 i1.op, .int .i64 i1.a, .int .i64 i1.x] 35)) o1 [.int .i64 (i1.a * 256 + i1.op), .int .i64 i1.x] 27 2 rfl (by decide) ((Mod.refl (fun _ => False) hm1.wf).alloc (.cells #[.int .u8 i1.op, .int .i64 i1.a, .int .i64 i1.x] 35)).wf).drew
      rw [World.size_alloc] at hy
      have hcl2 : C0.length + 2 ≤ 400000 := by
        rw [hC0]
        have e1 : (encI (d.take j)).length = j * 2 := by unfold encI; rw [flat_length enc1 2 (fun _ => rfl), List.length_take]; have := hnd'.out; omega
        rw [List.length_append, e1]; have := hr'.out; omega
      have hHc := Lib.hid hcl2
      clear hcl2 q2
      have hC0' := Lib.hid hC0
      clear hC0
      have hcap : C0.length + 2 ≤ maxLen := by unfold maxLen; have := hHc.out; omega
      have hcap2 : (C0.length + 2) * 8 ≤ 140737488355328 := by have := hHc.out; omega
      have hcc := Lib.hid (And.intro hcap hcap2)
      clear hcap hcap2
      have hE1 := Lib.hid he1
      go_region_law
        (refine guard_append rfl ?_
         refine step_append_row elCell (by rfl) (by rfl) hmY.wf (by rfl) hrow (by rfl) hy (by simp [Value.oneCell']) hcc.out.1 hcc.out.2 ?_
         intro v' w2 o2 hr4 hm4 hg4 _
         have e0 := hbY.grown hg4 (hrow.ne hbY (by decide))
         have e1 := e0.c 0 _ rfl
         have e2 := e0.frozen
         obtain ⟨a4, c4, rfl, _⟩ := hr4.len)
      all_goals
        go_wp2
        have hall := hmY.trans hm4
        have hall2 := hall.setCell ⟨h.g, 0, none⟩ (.slice a4 (C0.length + 2) c4) (fun _ => q1)
        have hnew : E.c.code ++ encI (d.take (j + 1)) = C0 ++ enc1 i1 := by
          rw [hC0'.out, List.take_add_one, hi1'.out]
          simp [encI]
        have hA2 := hr2.grown hg4 (hr2.apart hrow (by decide)) hm4.own
        have hA3 := hr3.grown hg4 (hr3.apart hrow (by decide)) hm4.own
        go_roundg (n - (j + 1))
        case measure => omega
        case rel =>
          refine ⟨j + 1, o2, by omega, rfl, by simp, hm1.trans hall2, ?_⟩
          rw [hnew]
          refine hE1.out.core hall2 ⟨q0, (hall.own h.g hb.lt).trans q1, ?_, q3, q4, _, _, _, e0.set 0 _, ?_, hA2.other _ _ (hA2.ne e0 (by decide)), hA3.other _ _ (hA3.ne e0 (by decide))⟩
          · rw [List.length_append]; exact hHc.out
          · have hx := hr4.other ⟨h.g, 0, none⟩ (.slice a4 (C0.length + 2) c4) (hr4.ne e0 (by decide))
            rw [List.length_append, List.map_append]
            exact hx
    · have e : j = n := by omega
      have hfull : d.take j = d := List.take_of_length_le (by have := hnd'.out; omega)
      rw [hfull] at hC0
      have hC0f := Lib.hid hC0
      clear hC0
      have hmY := ((Mod.refl (· = k + 3) hm1.wf).alloc (.cells #[.int .i64 C0.length] 3)).drew
      have hbY := (hb.alloc (.cells #[.int .i64 C0.length] 3)).drew
      have cA := (hb.alloc (.cells #[.int .i64 C0.length] 3)).c 0 _ rfl
      have cB := (hb.alloc (.cells #[.int .i64 C0.length] 3)).c 1 _ rfl
      have hrow := (r2.alloc (.cells #[.int .i64 C0.length] 3)).drew
      have hr1 := (r1.alloc (.cells #[.int .i64 C0.length] 3)).drew
      have hr3 := (r3.alloc (.cells #[.int .i64 C0.length] 3)).drew
      have hy := (Rd.new (size := 1) wr o1 [.int .i64 C0.length] 3 1 rfl (by decide) hm1.wf).drew
      have n1 : wr.heap.size ≠ h.g := by have := hb.lt; omega
      have hq2 := Lib.hid q2
      have hq3 := Lib.hid q3
      have hE1 := Lib.hid he1
      clear q2 q3
      go_wp2_with fail
      go_region_law
        (refine guard_append rfl ?_
         refine step_append_row elInt (by rfl) (by rfl) hmY.wf (by rfl) hrow (by rfl) hy (by simp [Value.oneCell']) (by unfold maxLen; omega) (by omega) ?_
         intro v' w2 o2 hr4 hm4 hg4 _
         have e0 := hbY.grown hg4 (hrow.ne hbY (by decide))
         have e1 := e0.c 1 _ rfl
         have e2 := e0.frozen
         obtain ⟨a4, c4, rfl, _⟩ := hr4.len)
      all_goals
        go_wp2
        go_end0
        rw [← hC0f.out]
        have hall := hmY.trans hm4
        have hall2 := hall.setCell ⟨h.g, 1, none⟩ (.slice a4 (E.c.ends.length + 1) c4) (fun _ => q1)
        have hA1 := hr1.grown hg4 (hr1.apart hrow (by decide)) hm4.own
        have hA3 := hr3.grown hg4 (hr3.apart hrow (by decide)) hm4.own
        refine ⟨rfl, o2, (hm1.trans hall2).mono (fun x hx => by subst hx; exact ⟨by omega, by omega⟩), hE1.out.core hall2 ⟨q0, (hall.own h.g hb.lt).trans q1, hq2.out, by simp; omega, q4, _, _, _, e0.set 1 _, hA1.other _ _ (hA1.ne e0 (by decide)), ?_, hA3.other _ _ (hA3.ne e0 (by decide))⟩⟩
        have hx := hr4.other ⟨h.g, 1, none⟩ (.slice a4 (E.c.ends.length + 1) c4) (hr4.ne e0 (by decide))
        dsimp only
        rw [List.length_append, List.map_append]
        exact hx
end Go.Proofs.YtjcaidbkbdkpeaaGreatDoor
