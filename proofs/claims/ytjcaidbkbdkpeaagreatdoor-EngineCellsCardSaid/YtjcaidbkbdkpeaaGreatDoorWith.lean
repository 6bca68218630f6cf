/- Cells are taken for a closure. -/
import Derived.Test.YtjcaidbkbdkpeaaGreatDoorEngB
namespace Go.Proofs.YtjcaidbkbdkpeaaGreatDoor
open Go Go.RowKit Go.Rh

set_option maxHeartbeats 400000 in
theorem e_jump_yes (w : World) (o : Owner) (k : Nat) (h : Hd) (E : Eng) (he : EngAt w o k h E) (hwf : Wf w o) (n : Int) :
    Calls Tryz.prog 77 #[gp h, .bool true, .int .i64 n] w fun e w' => e = .returned (.int .i64 0) ∧ Mod (InE k) w o w' o ∧ EngAt w' o k h { E with c := { E.c with on := n } } := by
  obtain ⟨ac, cc, ae, ce, aw, cw, c0, c1, c2, c3, c4, c5, c6, c7, c8, fz, hlt, r1, r2, r3⟩ := he.1.open
  go_enter Tryz.func77, Tryz.ntmps77
  go_wp2
  go_ret
  obtain ⟨m1, he1⟩ := he.withOn hwf n
  exact ⟨rfl, m1, he1⟩

set_option maxHeartbeats 400000 in
theorem e_jump_no (w : World) (h : Hd) (n : Int) :
    Calls Tryz.prog 77 #[gp h, .bool false, .int .i64 n] w fun e w' => e = .returned (.int .i64 0) ∧ w = w' := by
  go_enter Tryz.func77, Tryz.ntmps77
  go_wp2
  go_ret
  exact ⟨rfl, rfl⟩

/-- Blocks that nobody owns may be written. -/
theorem EngAt.far {w w1 : World} {o o1 : Owner} {k : Nat} {h : Hd} {E : Eng} (he : EngAt w o k h E) (m : Mod (· = 0) w o w1 o1) : EngAt w1 o1 k h E := he.kept m (fun x hx h0 => by subst h0; obtain ⟨h1, h2⟩ := hx; omega)
theorem notInE0 {k x : Nat} (h0 : x = 0) : ¬ InE k x := by subst h0; rintro ⟨h1, h2⟩; omega

/-- What a closure does with the cells that it gets. -/
def DoesW (k : Nat) (h : Hd) (f : Nat) (cap : Array Value) (xs : List Int) (E1 E2 : Eng) (w : World) (o : Owner) : Prop :=
  ∀ w1 o1 v, Mod (InE k) w o w1 o1 → EngAt w1 o1 k h E1 → Rd w1 o1 0 1 v xs.length (xs.map cv) →
    Calls Tryz.prog f (#[v] ++ cap) w1 fun e w2 => e = .returned (.int .i64 0) ∧ ∃ o2, Mod (InE k) w1 o1 w2 o2 ∧ EngAt w2 o2 k h E2

set_option maxHeartbeats 400000 in
set_option maxRecDepth 100000 in
theorem e_with_ok (w : World) (o : Owner) (k : Nat) (h : Hd) (E E2 : Eng) (he : EngAt w o k h E) (hwf : Wf w o) (n : Int) (hn : n ≤ 100000) (hn0 : -100000 ≤ n) (L xs : List Int) (ht : takeS E.s.stack n = (xs, L, 0)) (f : Nat) (cap : Array Value)
    (hf : ∀ args w, (callFunc f args).run Tryz.prog w = .ok (.enter f args) w) (hdo : DoesW k h f cap xs { E with s := { E.s with stack := L } } E2 w o) :
    Calls Tryz.prog 64 #[gp h, .int .i64 n, .func (.func f) #[] cap] w fun e w' => e = .returned ran ∧ ∃ o', Mod (InE k) w o w' o' ∧ EngAt w' o' k h E2 := by
  obtain ⟨ac, cc, ae, ce, aw, cw, c0, c1, c2, c3, c4, c5, c6, c7, c8, fz, hlt, r1, r2, r3⟩ := he.1.open
  have hm0 := (Mod.refl (fun _ => False) hwf).alloc (.cells #[.int .i64 0, .int .i64 0, .int .i64 0] 42)
  have he0 := he.same hm0
  have hB := Blk.new w [.int .i64 0, .int .i64 0, .int .i64 0] 42
  unfold DoesW at hdo
  go_enter Tryz.func64, Tryz.ntmps64
  go_wp2_with (go_at_call 16; refine (p_Stack _ o k h E he0).mono ?_; rintro e w' ⟨rfl, rfl⟩)
  refine (stack_Take _ o _ _ _ he0.2.2.1.1 hm0.wf n hn hn0).mono ?_
  rw [ht]
  rintro e w1 ⟨v', o1, rfl, hm, hs, hr⟩
  obtain ⟨m1, he1⟩ := he0.fullStack hm hs
  obtain ⟨a', c', rfl, _⟩ := hr.len
  go_wp2_with fail
  have hm01 := (hm0.mono (T' := InE k) (fun _ h => h.elim)).trans m1
  refine (hdo w1 o1 _ hm01 he1 hr).mono ?_
  rintro e w2 ⟨rfl, o2, m2, he2⟩
  have ho : o w.heap.size = 0 := hwf _ (Nat.le_refl _)
  have ho1 : o1 w.heap.size = 0 := (m1.own _ hB.lt).trans ho
  have hB2 := (hB.kept m1 (notInE0 ho)).kept m2 (notInE0 ho1)
  go_wp2_with fail
  refine (e_done_ok w2 o2 m2.wf h).mono ?_
  rintro e w3 ⟨rfl, m3⟩
  obtain ⟨b0, b1, b2, bf⟩ := (hB2.kept m3 (fun h => h)).three
  go_wp2
  refine bodyPost_ret (v := ran) (by simp [results, Tryz.results64, go_sem, b0, b1, b2]) rfl ?_
  have ho2 : o2 w.heap.size = 0 := (m2.own _ (hB.kept m1 (notInE0 ho)).lt).trans ho1
  refine ⟨rfl, o2, ?_, EngAt.far he2 ?_⟩
  · (repeat (refine Mod.setNew ?_ _ _ (by simp)))
    exact (hm01.trans m2).trans (m3.mono (fun _ h => h.elim))
  · (repeat (refine Mod.setCell ?_ _ _ (fun _ => ho2)))
    exact m3.mono (fun _ h => h.elim)

/-- A block that nobody owns, known whole. -/
def Box (w : World) (o : Owner) (b : Nat) (cs : List Value) (e : TypeId) : Prop := Blk w b cs e ∧ o b = 0
theorem Box.kept {w w1 : World} {o o1 : Owner} {k b : Nat} {cs : List Value} {e : TypeId} (hb : Box w o b cs e) (m : Mod (InE k) w o w1 o1) : Box w1 o1 b cs e :=
  ⟨hb.1.kept m (notInE0 hb.2), (m.own _ hb.1.lt).trans hb.2⟩
theorem Box.c {w : World} {o : Owner} {b : Nat} {cs : List Value} {e : TypeId} (hb : Box w o b cs e) (i : Nat) (v : Value) (hi : cs[i]? = some v) : w.cell? ⟨b, i, none⟩ = some v := hb.1.c i v hi

theorem farCell {w w1 : World} {o o1 : Owner} {k : Nat} (m : Mod (InE k) w o w1 o1) (a : Addr) (ho : o a.block = 0) (hlt : a.block < w.heap.size) : w1.cell? a = w.cell? a := by
  unfold World.cell?; rw [m.keep _ hlt (notInE0 ho)]

/-- A slice of cells that are nobody's: where they lie. -/
theorem Rd.at {w : World} {o : Owner} {v : Value} {n : Nat} {xs : List Value} (h : Rd w o 0 1 v n xs) (hn : 0 < n) : ∃ a c, v = .slice (some a) n c ∧ o a.block = 0 ∧ a.block < w.heap.size ∧ ∀ j u, xs[j]? = some u → w.cell? (a.add j) = some u := by
  rcases h.2 with ⟨h1, h2⟩ | ⟨a', c', h1, h2, h3, h4, h5⟩
  · omega
  · exact ⟨a', c', h1, (h4 hn).1, (h4 hn).2, h5⟩

set_option maxHeartbeats 400000 in
/-- A cell that is asked for: 0 goes to a. -/
theorem zero_does (k : Nat) (h : Hd) (bg bi : Nat) (x a op y : Int) (E : Eng) (w1 : World) (o1 : Owner) (v : Value) (he : EngAt w1 o1 k h E) (hwf : Wf w1 o1) (hg : Box w1 o1 bg [gp h] 24) (hi : Box w1 o1 bi [.int .u8 op, .int .i64 a, .int .i64 y] 35) (hr : Rd w1 o1 0 1 v 1 [cv x]) :
    Calls Tryz.prog 78 #[v, .pointer (some ⟨bg, 0, none⟩), .pointer (some ⟨bi, 0, none⟩)] w1 fun e w2 => e = .returned (.int .i64 0) ∧ ∃ o2, Mod (InE k) w1 o1 w2 o2 ∧ EngAt w2 o2 k h { E with c := { E.c with on := if x = 0 then a else E.c.on } } := by
  obtain ⟨a', c', rfl, ho, hlt, hx⟩ := Rd.at hr (by omega)
  have hx0 : w1.cell? a' = some (cv x) := by simpa [Addr.add] using hx 0 (cv x) rfl
  clear hr hx
  have g0 := hg.c 0 _ rfl
  have i1 := hi.c 1 _ rfl
  have hd := he.same (Mod.refl (fun _ => False) hwf).drew
  by_cases hz : x = 0
  · subst hz
    simp only [if_true]
    go_enter Tryz.func78, Tryz.ntmps78
    go_wp2_with fail
    go_region_held3 (fun w' => w'.cell? ⟨bg, 0, none⟩ = some (gp h) ∧ w'.cell? ⟨bi, 1, none⟩ = some (.int .i64 a) ∧ w'.cell? a' = some (cv 0)) (go_keep)
      ((go_simp; go_at_call 77; refine (e_jump_yes _ o1 k h E hd hwf a).mono ?_
        rintro e w2 ⟨rfl, m2, he2⟩
        have q1 := (Box.kept (by exact hg) m2).c 0 _ rfl
        have q2 := (Box.kept (by exact hi) m2).c 1 _ rfl
        have q3 : w2.cell? a' = some (cv 0) := (farCell m2 a' ho hlt).trans hx0))
    go_wp2
    go_ret
    exact ⟨rfl, o1, (Mod.refl _ hwf).drew.trans m2, he2⟩
  · simp only [if_neg hz]
    have hE := Lib.hid (he.same ((Mod.refl (fun _ => False) hwf).drewN 0))
    go_enter Tryz.func78, Tryz.ntmps78
    go_wp2_with fail
    go_region_held3 (fun w' => w'.cell? ⟨bg, 0, none⟩ = some (gp h) ∧ w'.cell? ⟨bi, 1, none⟩ = some (.int .i64 a) ∧ w'.cell? a' = some (cv x)) (go_keep)
      ((go_simp; go_at_call 77; (rw [show (x == 0) = false by simpa using hz]); refine (e_jump_no _ h a).mono ?_
        rintro e w2 ⟨rfl, rfl⟩))
    go_wp2
    go_ret
    refine ⟨rfl, o1, (Mod.refl _ hwf).drew, ?_⟩
    exact hd

set_option maxHeartbeats 400000 in
/-- Two cells that are the same: both are dropped. -/
theorem of_does_same (k : Nat) (h : Hd) (bg bi : Nat) (x : Int) (E : Eng) (w1 : World) (o1 : Owner) (v : Value) (he : EngAt w1 o1 k h E) (hwf : Wf w1 o1) (hr : Rd w1 o1 0 1 v 2 [cv x, cv x]) :
    Calls Tryz.prog 83 #[v, .pointer (some ⟨bg, 0, none⟩), .pointer (some ⟨bi, 0, none⟩)] w1 fun e w2 => e = .returned (.int .i64 0) ∧ ∃ o2, Mod (InE k) w1 o1 w2 o2 ∧ EngAt w2 o2 k h E := by
  obtain ⟨a', c', rfl, ho, hlt, hx⟩ := Rd.at hr (by omega)
  obtain ⟨ab, ao, ap⟩ := a'
  have hx0 : w1.cell? ⟨ab, ao, ap⟩ = some (cv x) := by simpa [Addr.add] using hx 0 (cv x) rfl
  have hx1 : w1.cell? ⟨ab, ao + 1, none⟩ = some (cv x) := by simpa [Addr.add] using hx 1 (cv x) rfl
  clear hr hx
  go_enter Tryz.func83, Tryz.ntmps83
  go_wp2_with fail
  go_quiet (fail)
  go_wp2
  go_ret
  exact ⟨rfl, o1, (Mod.refl _ hwf).drewN _, he.same ((Mod.refl _ hwf).drewN _)⟩

set_option maxHeartbeats 400000 in
/-- Two cells that are not the same: one is dropped, and it goes to a. -/
theorem of_does_other (k : Nat) (h : Hd) (bg bi : Nat) (x y a op z : Int) (hxy : x ≠ y) (E : Eng) (w1 : World) (o1 : Owner) (v : Value) (he : EngAt w1 o1 k h E) (hwf : Wf w1 o1) (hfit : E.s.stack.length < 128) (hg : Box w1 o1 bg [gp h] 24) (hi : Box w1 o1 bi [.int .u8 op, .int .i64 a, .int .i64 z] 35) (hr : Rd w1 o1 0 1 v 2 [cv x, cv y]) :
    Calls Tryz.prog 83 #[v, .pointer (some ⟨bg, 0, none⟩), .pointer (some ⟨bi, 0, none⟩)] w1 fun e w2 => e = .returned (.int .i64 0) ∧ ∃ o2, Mod (InE k) w1 o1 w2 o2 ∧ EngAt w2 o2 k h { E with s := { E.s with stack := E.s.stack ++ [x] }, c := { E.c with on := a } } := by
  obtain ⟨a', c', rfl, ho, hlt, hx⟩ := Rd.at hr (by omega)
  obtain ⟨ab, ao, ap⟩ := a'
  have hx0 : w1.cell? ⟨ab, ao, ap⟩ = some (cv x) := by simpa [Addr.add] using hx 0 (cv x) rfl
  have hx1 : w1.cell? ⟨ab, ao + 1, none⟩ = some (cv y) := by simpa [Addr.add] using hx 1 (cv y) rfl
  clear hr hx
  have hp : putS E.s.stack [x] = (E.s.stack ++ [x], 0) := if_pos (by simp; omega)
  have g0 := hg.c 0 _ rfl
  have i1 := hi.c 1 _ rfl
  go_enter Tryz.func83, Tryz.ntmps83
  go_wp2_with fail
  go_quiet (fail)
  go_wp2_with fail
  have hm0 := (Mod.refl (fun _ => False) hwf).drewN nq
  have hd := he.same hm0.drew
  have hx0' : (w1.drewN nq).cell? ⟨ab, ao, ap⟩ = some (cv x) := hx0
  have hg0 : (w1.drewN nq).cell? ⟨bg, 0, none⟩ = some (gp h) := g0
  have hg1 : Box (w1.drewN nq).drew o1 bg [gp h] 24 := hg
  have hi1 : Box (w1.drewN nq).drew o1 bi [.int .u8 op, .int .i64 a, .int .i64 z] 35 := hi
  have hwf' : Wf (w1.drewN nq).drew o1 := hwf
  go_region_held3 (fun w' => w'.cell? ⟨bg, 0, none⟩ = some (gp h) ∧ w'.cell? ⟨ab, ao, ap⟩ = some (cv x)) (go_keep)
    ((go_simp; go_at_call 63; refine (e_push _ o1 k h E hd hwf' x).mono ?_
      rw [hp]
      rintro e w2 ⟨rfl, o2, m2, he2⟩
      have q1 := (Box.kept hg1 m2).c 0 _ rfl
      have q2 := (Box.kept hi1 m2).c 1 _ rfl
      have q3 : w2.cell? ⟨ab, ao, ap⟩ = some (cv x) := (farCell m2 ⟨ab, ao, ap⟩ ho hlt).trans hx0))
  go_wp2_with fail
  refine (e_jump_yes _ o2 k h _ he2 m2.wf a).mono ?_
  rintro e w3 ⟨rfl, m3, he3⟩
  go_wp2
  go_ret
  exact ⟨rfl, o2, ((hm0.drew.mono (fun _ h => h.elim)).trans m2).trans m3, he3⟩

set_option maxHeartbeats 400000 in
/-- A cell is dropped. -/
theorem drop_does (k : Nat) (h : Hd) (E : Eng) (w1 : World) (o1 : Owner) (v : Value) (he : EngAt w1 o1 k h E) (hwf : Wf w1 o1) :
    Calls Tryz.prog 110 #[v] w1 fun e w2 => e = .returned (.int .i64 0) ∧ ∃ o2, Mod (InE k) w1 o1 w2 o2 ∧ EngAt w2 o2 k h E := by
  go_enter Tryz.func110, Tryz.ntmps110
  go_wp2
  go_ret
  exact ⟨rfl, o1, Mod.refl _ hwf, he⟩
end Go.Proofs.YtjcaidbkbdkpeaaGreatDoor
