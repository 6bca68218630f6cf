/- A definition is added. -/
import Derived.Test.YtjcaidbkbdkpeaaGreatDoorMayB
import Derived.Test.YtjcaidbkbdkpeaaGreatDoorLay
namespace Go.Proofs.YtjcaidbkbdkpeaaGreatDoor
open Go Go.RowKit Go.Rh

theorem PlainDef.small {d : List In1} {words : Nat} (hd : PlainDef d words) (hw : words ≤ 1000) : ∀ i ∈ d, 0 ≤ i.op ∧ i.op < 256 ∧ 0 ≤ i.a ∧ i.a ≤ 100000 := by
  intro i hi
  have h0 := hd.op i hi
  have h1 := hd.word i hi
  have h2 := hd.place i hi
  have h3 := hd.zero i hi
  have h4 := hd.le
  unfold Plain at h0
  omega

set_option maxHeartbeats 2000000 in
set_option maxRecDepth 100000 in
theorem e_Define (w : World) (o : Owner) (k : Nat) (h : Hd) (E : Eng) (he : EngAt w o k h E) (hwf : Wf w o) (ab c : Nat) (d : List In1) (hd : PlainDef d E.c.words.length) (hab : ab < w.heap.size) (hab0 : ¬ InE k (o ab)) (hv : ∀ j u, (d.flatMap In1.cells)[j]? = some u → w.cell? ⟨ab, j, none⟩ = some u)
    (hroom : E.c.code.length + 1000 ≤ 400000) (hends : E.c.ends.length < 300) :
    Calls Tryz.prog 11 #[gp h, .agg #[.slice (some ⟨ab, 0, none⟩) d.length c]] w fun e w' => e = .returned (.tuple #[.int .i64 ((E.c.ends.length : Int) + 1), .int .i64 0]) ∧ ∃ o', Mod (InE k) w o w' o' ∧ EngAt w' o' k h { E with c := { E.c with code := E.c.code ++ encI d, ends := E.c.ends ++ [((E.c.code ++ encI d).length : Int)] } } := by
  have hm0 := (Mod.refl (fun _ => False) hwf).alloc (.cells #[.slice (some ⟨ab, 0, none⟩) d.length c] 39)
  have he0 := he.same hm0
  have hdef : Box (w.alloc (.cells #[.slice (some ⟨ab, 0, none⟩) d.length c] 39)) o w.heap.size [.slice (some ⟨ab, 0, none⟩) d.length c] 39 := ⟨Blk.new w [.slice (some ⟨ab, 0, none⟩) d.length c] 39, hwf _ (Nat.le_refl _)⟩
  have hle := hd.le
  have hwl : E.c.words.length ≤ 600 := he.1.2.2.2.2.1
  have hmay : ∀ W, Mod (fun _ => False) w o W o → Calls Tryz.prog 36 #[.agg #[.slice (some ⟨ab, 0, none⟩) d.length c], .int .i64 E.c.words.length] W fun e w' => e = .returned (.bool true) ∧ Mod (fun _ => False) W o w' o := fun W hW =>
    ins_May W o hW.wf ab c d _ hd (by omega) (by have := hW.size; omega) (fun j u hu => by rw [hW.cells ab j hab]; exact hv j u hu)
  have hlay : ∀ W, Mod (fun _ => False) w o W o → EngAt W o k h E → Calls Tryz.prog 37 #[gp h, .slice (some ⟨ab, 0, none⟩) d.length c] W fun e w' => e = .returned (.tuple #[]) ∧ ∃ o', Mod (InE k) W o w' o' ∧ EngAt w' o' k h { E with c := { E.c with code := E.c.code ++ encI d, ends := E.c.ends ++ [((E.c.code ++ encI d).length : Int)] } } := fun W hW hE =>
    e_lay W o k h E hE hW.wf ab c d (by have := hW.size; omega) hab0 (fun j u hu => by rw [hW.cells ab j hab]; exact hv j u hu) (hd.small (by omega)) (by omega) hroom hends
  obtain ⟨n, hn⟩ : ∃ n, n = d.length := ⟨_, rfl⟩
  rw [← hn] at hmay hlay hm0 hdef he0 hle ⊢
  have hmay' := Lib.hid hmay
  have hlay' := Lib.hid hlay
  clear hmay hlay hv hd hn
  obtain ⟨ac, cc, ae, ce, aw, cw, c0, c1, c2, c3, c4, c5, c6, c7, c8, fz, hlt, r1, r2, r3⟩ := he0.1.open
  have d0 := hdef.c 0 _ rfl
  have z1 : decide ((300 : Int) ≤ (E.c.ends.length : Int)) = false := decide_eq_false (by omega)
  go_enter Tryz.func11, Tryz.ntmps11
  go_wp2_with fail
  go_region_held3 (fun w' => w'.cell? ⟨h.g, 2, none⟩ = some (.slice aw E.c.words.length cw) ∧ w'.cell? ⟨w.heap.size, 0, none⟩ = some (.slice (some ⟨ab, 0, none⟩) n c)) (go_keep)
    ((go_simp; go_at_call 36; refine (hmay'.out _ (by exact hm0.drew)).mono ?_
      rintro e w1 ⟨rfl, m1⟩
      have he1 := he0.same ((Mod.refl (fun _ => False) hm0.wf).drew.trans (by exact m1))
      have hdef1 := Box.kept (k := k) (by exact hdef) (m1.mono (fun _ h => h.elim))
      have f0 := hdef1.c 0 _ rfl
      have q1 : w1.cell? ⟨h.g, 2, none⟩ = some (.slice aw E.c.words.length cw) := (m1.cells h.g 2 (by exact hlt)).trans (by exact c2)))
  obtain ⟨ac1, cc1, ae1, ce1, aw1, cw1, e0, e1, e2, e3, e4, e5, e6, e7, e8, ez, elt, _, _, _⟩ := he1.1.open
  have hmA : Mod (fun _ => False) w o w1 o := hm0.trans ((Mod.refl (fun _ => False) hm0.wf).drew.trans (by exact m1))
  go_wp2_with fail
  clear e0 e1 e2 e3 e4 e5 e6 e7 e8 ez elt
  have hmA' : Mod (fun _ => False) w o w1.drew o := hmA.drew
  have heA : EngAt w1.drew o k h E := he1.same (Mod.refl (fun _ => False) hmA.wf).drew
  go_region_held3 (fun w' => w'.cell? ⟨w.heap.size, 0, none⟩ = some (.slice (some ⟨ab, 0, none⟩) n c)) (go_keep)
    ((go_simp; go_at_call 37; refine (hlay'.out _ (by exact hmA') (by exact heA)).mono ?_
      rintro e w2 ⟨rfl, o2, m2, he2⟩
      have f2 := (Box.kept (by exact hdef1) m2).c 0 _ rfl))
  obtain ⟨ac2, cc2, ae2, ce2, aw2, cw2, e0, e1, e2, e3, e4, e5, e6, e7, e8, ez, elt, _, _, _⟩ := he2.1.open
  dsimp only at e1
  rw [List.length_append, List.length_cons, List.length_nil] at e1
  go_wp2
  go_ret2
  exact ⟨by simp, o2, (hmA'.mono (fun _ h => h.elim)).trans m2, by simpa using he2⟩
end Go.Proofs.YtjcaidbkbdkpeaaGreatDoor
