/- The engine's small functions. -/
import Derived.Test.YtjcaidbkbdkpeaaGreatDoorEng
namespace Go.Proofs.YtjcaidbkbdkpeaaGreatDoor
open Go Go.RowKit Go.Rh

section
variable {w : World} {o : Owner} {t : Nat} {h : Hd} {C : Core}
/-- The fields of an engine, to be read. -/
theorem CoreAt.open (hc : CoreAt w o t h C) : ∃ ac cc ae ce aw cw, w.cell? ⟨h.g, 0, none⟩ = some (.slice ac C.code.length cc) ∧ w.cell? ⟨h.g, 1, none⟩ = some (.slice ae C.ends.length ce) ∧ w.cell? ⟨h.g, 2, none⟩ = some (.slice aw C.words.length cw) ∧
    w.cell? ⟨h.g, 3, none⟩ = some (.pointer (some ⟨h.fr, 0, none⟩)) ∧ w.cell? ⟨h.g, 4, none⟩ = some (.int .i64 C.def_) ∧ w.cell? ⟨h.g, 5, none⟩ = some (.int .i64 C.on) ∧ w.cell? ⟨h.g, 6, none⟩ = some (.int .i64 C.next) ∧
    w.cell? ⟨h.g, 7, none⟩ = some (.pointer (some ⟨h.st, 0, none⟩)) ∧ w.cell? ⟨h.g, 8, none⟩ = some (.pointer (some ⟨h.inp, 0, none⟩)) ∧ (∀ i, w.frozen? ⟨h.g, i, none⟩ = false) ∧ h.g < w.heap.size ∧
    Row w o t 27 1 (.slice ac C.code.length cc) C.code.length (C.code.map cv) ∧ Row w o t 3 1 (.slice ae C.ends.length ce) C.ends.length (C.ends.map cv) ∧ Row w o t 33 3 (.slice aw C.words.length cw) C.words.length (C.words.flatMap Wd.cells) := by
  obtain ⟨h0, h1, h2, h3, h4, vc, ve, vw, hb, r1, r2, r3⟩ := hc
  obtain ⟨ac, cc, rfl, _⟩ := r1.len
  obtain ⟨ae, ce, rfl, _⟩ := r2.len
  obtain ⟨aw, cw, rfl, _⟩ := r3.len
  exact ⟨ac, cc, ae, ce, aw, cw, hb.c 0 _ rfl, hb.c 1 _ rfl, hb.c 2 _ rfl, hb.c 3 _ rfl, hb.c 4 _ rfl, hb.c 5 _ rfl, hb.c 6 _ rfl, hb.c 7 _ rfl, hb.c 8 _ rfl, hb.frozen, hb.lt, r1, r2, r3⟩

theorem CoreAt.setDef (hc : CoreAt w o t h C) (d : Int) : CoreAt (w.setCell ⟨h.g, 4, none⟩ (.int .i64 d)) o t h { C with def_ := d } := by
  obtain ⟨h0, h1, h2, h3, h4, vc, ve, vw, hb, r1, r2, r3⟩ := hc
  exact ⟨h0, h1, h2, h3, h4, vc, ve, vw, hb.set 4 _, r1.other _ _ (r1.ne hb (by decide)), r2.other _ _ (r2.ne hb (by decide)), r3.other _ _ (r3.ne hb (by decide))⟩
theorem CoreAt.setOn (hc : CoreAt w o t h C) (d : Int) : CoreAt (w.setCell ⟨h.g, 5, none⟩ (.int .i64 d)) o t h { C with on := d } := by
  obtain ⟨h0, h1, h2, h3, h4, vc, ve, vw, hb, r1, r2, r3⟩ := hc
  exact ⟨h0, h1, h2, h3, h4, vc, ve, vw, hb.set 5 _, r1.other _ _ (r1.ne hb (by decide)), r2.other _ _ (r2.ne hb (by decide)), r3.other _ _ (r3.ne hb (by decide))⟩
theorem CoreAt.setNext (hc : CoreAt w o t h C) (d : Int) : CoreAt (w.setCell ⟨h.g, 6, none⟩ (.int .i64 d)) o t h { C with next := d } := by
  obtain ⟨h0, h1, h2, h3, h4, vc, ve, vw, hb, r1, r2, r3⟩ := hc
  exact ⟨h0, h1, h2, h3, h4, vc, ve, vw, hb.set 6 _, r1.other _ _ (r1.ne hb (by decide)), r2.other _ _ (r2.ne hb (by decide)), r3.other _ _ (r3.ne hb (by decide))⟩
end

section
variable {w w1 : World} {o o1 : Owner} {k : Nat} {h : Hd} {E : Eng}
theorem EngAt.core (he : EngAt w o k h E) (m : Mod (· = k + 3) w o w1 o1) {C : Core} (hc : CoreAt w1 o1 (k + 3) h C) : EngAt w1 o1 k h { E with c := C } :=
  ⟨hc, he.2.1.kept m (by omega), he.2.2.1.kept m (by omega) (by omega) (by omega) (by omega), he.2.2.2.kept m (by omega)⟩
theorem EngAt.frames (he : EngAt w o k h E) (m : Mod (· = k + 2) w o w1 o1) {F : List Fr} (hc : FramesAt w1 o1 (k + 2) h.fr F) : EngAt w1 o1 k h { E with fs := F } :=
  ⟨he.1.kept m (by omega), hc, he.2.2.1.kept m (by omega) (by omega) (by omega) (by omega), he.2.2.2.kept m (by omega)⟩
theorem EngAt.stack (he : EngAt w o k h E) (m : Mod (· = k + 1) w o w1 o1) {L : List Int} (hc : StackAt w1 o1 (k + 1) h.sp L) : EngAt w1 o1 k h { E with s := { E.s with stack := L } } :=
  ⟨he.1.kept m (by omega), he.2.1.kept m (by omega), ⟨hc, he.2.2.1.2.1.kept m (by omega), he.2.2.1.2.2.kept m (by omega) (by omega)⟩, he.2.2.2.kept m (by omega)⟩
theorem EngAt.same (he : EngAt w o k h E) (m : Mod (fun _ => False) w o w1 o1) : EngAt w1 o1 k h E := he.kept m (fun _ _ h => h)
theorem EngAt.g (he : EngAt w o k h E) : o h.g = k + 3 := he.1.2.1
theorem EngAt.withDef (he : EngAt w o k h E) (hwf : Wf w o) (d : Int) : Mod (InE k) w o (w.setCell ⟨h.g, 4, none⟩ (.int .i64 d)) o ∧ EngAt (w.setCell ⟨h.g, 4, none⟩ (.int .i64 d)) o k h { E with c := { E.c with def_ := d } } := by
  have hm := (Mod.refl (· = k + 3) hwf).setCell ⟨h.g, 4, none⟩ (.int .i64 d) (fun _ => he.g)
  exact ⟨hm.mono (fun x hx => by subst hx; exact ⟨by omega, by omega⟩), he.core hm (he.1.setDef d)⟩
theorem EngAt.withOn (he : EngAt w o k h E) (hwf : Wf w o) (d : Int) : Mod (InE k) w o (w.setCell ⟨h.g, 5, none⟩ (.int .i64 d)) o ∧ EngAt (w.setCell ⟨h.g, 5, none⟩ (.int .i64 d)) o k h { E with c := { E.c with on := d } } := by
  have hm := (Mod.refl (· = k + 3) hwf).setCell ⟨h.g, 5, none⟩ (.int .i64 d) (fun _ => he.g)
  exact ⟨hm.mono (fun x hx => by subst hx; exact ⟨by omega, by omega⟩), he.core hm (he.1.setOn d)⟩
theorem EngAt.withNext (he : EngAt w o k h E) (hwf : Wf w o) (d : Int) : Mod (InE k) w o (w.setCell ⟨h.g, 6, none⟩ (.int .i64 d)) o ∧ EngAt (w.setCell ⟨h.g, 6, none⟩ (.int .i64 d)) o k h { E with c := { E.c with next := d } } := by
  have hm := (Mod.refl (· = k + 3) hwf).setCell ⟨h.g, 6, none⟩ (.int .i64 d) (fun _ => he.g)
  exact ⟨hm.mono (fun x hx => by subst hx; exact ⟨by omega, by omega⟩), he.core hm (he.1.setNext d)⟩
theorem EngAt.fullStack (he : EngAt w o k h E) (m : Mod (· = k + 1) w o w1 o1) {L : List Int} (hc : StackAt w1 o1 (k + 1) h.sp L) : Mod (InE k) w o w1 o1 ∧ EngAt w1 o1 k h { E with s := { E.s with stack := L } } :=
  ⟨m.mono (fun x hx => by subst hx; exact ⟨by omega, by omega⟩), he.stack m hc⟩
theorem EngAt.fullFrames (he : EngAt w o k h E) (m : Mod (· = k + 2) w o w1 o1) {F : List Fr} (hc : FramesAt w1 o1 (k + 2) h.fr F) : Mod (InE k) w o w1 o1 ∧ EngAt w1 o1 k h { E with fs := F } :=
  ⟨m.mono (fun x hx => by subst hx; exact ⟨by omega, by omega⟩), he.frames m hc⟩
theorem EngAt.stt (he : EngAt w o k h E) : w.cell? ⟨h.st, 0, none⟩ = some (.pointer (some ⟨h.tl, 0, none⟩)) ∧ w.cell? ⟨h.st, 1, none⟩ = some (.pointer (some ⟨h.sp, 0, none⟩)) ∧ w.cell? ⟨h.st, 2, none⟩ = some (.pointer (some ⟨h.mp, 0, none⟩)) := by
  obtain ⟨_, _, _, _, vo, vm, hb, _⟩ := he.2.2.1.2.2
  exact ⟨hb.c 0 _ rfl, hb.c 1 _ rfl, hb.c 2 _ rfl⟩
end

def nilp : Value := .pointer none
abbrev gp (h : Hd) : Value := .pointer (some ⟨h.g, 0, none⟩)
abbrev enc (x : Int) : Value := .int .i64 x
abbrev ran : Value := .agg #[.int .i64 1, .int .i64 0, .int .i64 0]
abbrev stat (a b c : Int) : Value := .agg #[.int .i64 a, .int .i64 b, .int .i64 c]

set_option maxHeartbeats 400000 in
theorem e_place (w : World) (o : Owner) (k : Nat) (h : Hd) (E : Eng) (he : EngAt w o k h E) (hwf : Wf w o) (d n : Int) :
    Calls Tryz.prog 70 #[gp h, .int .i64 d, .int .i64 n] w fun e w' => e = .returned (.tuple #[]) ∧ Mod (InE k) w o w' o ∧ EngAt w' o k h { E with c := { E.c with def_ := d, on := n } } := by
  obtain ⟨ac, cc, ae, ce, aw, cw, c0, c1, c2, c3, c4, c5, c6, c7, c8, fz, hlt, r1, r2, r3⟩ := he.1.open
  go_enter Tryz.func70, Tryz.ntmps70
  go_wp2
  go_end0
  obtain ⟨m1, he1⟩ := he.withDef hwf d
  obtain ⟨m2, he2⟩ := he1.withOn m1.wf n
  exact ⟨rfl, m1.trans m2, he2⟩

set_option maxHeartbeats 400000 in
theorem e_State (w : World) (o : Owner) (k : Nat) (h : Hd) (E : Eng) (he : EngAt w o k h E) :
    Calls Tryz.prog 15 #[gp h] w fun e w' => e = .returned (.pointer (some ⟨h.st, 0, none⟩)) ∧ w = w' := by
  obtain ⟨ac, cc, ae, ce, aw, cw, c0, c1, c2, c3, c4, c5, c6, c7, c8, fz, hlt, r1, r2, r3⟩ := he.1.open
  go_enter Tryz.func15, Tryz.ntmps15
  go_wp2
  go_ret
  exact ⟨rfl, rfl⟩

set_option maxHeartbeats 400000 in
theorem e_Frames (w : World) (o : Owner) (k : Nat) (h : Hd) (E : Eng) (he : EngAt w o k h E) :
    Calls Tryz.prog 18 #[gp h] w fun e w' => e = .returned (.pointer (some ⟨h.fr, 0, none⟩)) ∧ w = w' := by
  obtain ⟨ac, cc, ae, ce, aw, cw, c0, c1, c2, c3, c4, c5, c6, c7, c8, fz, hlt, r1, r2, r3⟩ := he.1.open
  go_enter Tryz.func18, Tryz.ntmps18
  go_wp2
  go_ret
  exact ⟨rfl, rfl⟩

set_option maxHeartbeats 400000 in
theorem p_Stack (w : World) (o : Owner) (k : Nat) (h : Hd) (E : Eng) (he : EngAt w o k h E) :
    Calls Tryz.prog 16 #[.pointer (some ⟨h.st, 0, none⟩)] w fun e w' => e = .returned (.pointer (some ⟨h.sp, 0, none⟩)) ∧ w = w' := by
  obtain ⟨d0, d1, d2⟩ := he.stt
  go_enter Tryz.func16, Tryz.ntmps16
  go_wp2
  go_ret
  exact ⟨rfl, rfl⟩

set_option maxHeartbeats 400000 in
theorem p_Mem (w : World) (o : Owner) (k : Nat) (h : Hd) (E : Eng) (he : EngAt w o k h E) :
    Calls Tryz.prog 53 #[.pointer (some ⟨h.st, 0, none⟩)] w fun e w' => e = .returned (.pointer (some ⟨h.mp, 0, none⟩)) ∧ w = w' := by
  obtain ⟨d0, d1, d2⟩ := he.stt
  go_enter Tryz.func53, Tryz.ntmps53
  go_wp2
  go_ret
  exact ⟨rfl, rfl⟩

/-- Where the words lie. -/
theorem EngAt.wordsAt {w : World} {o : Owner} {k : Nat} {h : Hd} {E : Eng} (he : EngAt w o k h E) {i : Nat} {x : Wd} (hx : E.c.words[i]? = some x) : ∃ b cw, w.cell? ⟨h.g, 2, none⟩ = some (.slice (some ⟨b, 0, none⟩) E.c.words.length cw) ∧
    w.cell? ⟨b, i * 3, none⟩ = some (.int .i64 x.kind) ∧ w.cell? ⟨b, i * 3 + 1, none⟩ = some (.int .i64 x.n) ∧ w.cell? ⟨b, i * 3 + 2, none⟩ = some (.int .i64 x.w) := by
  have hil : i < E.c.words.length := (List.getElem?_eq_some_iff.1 hx).1
  obtain ⟨ac, cc, ae, ce, aw, cw, c0, c1, c2, c3, c4, c5, c6, c7, c8, fz, hlt, r1, r2, r3⟩ := he.1.open
  obtain ⟨b, rfl⟩ : ∃ b, aw = some ⟨b, 0, none⟩ := by
    rcases r3.1.2 with ⟨h1, h2⟩ | ⟨g, cap, cur, h1, _⟩
    · omega
    · cases h1; exact ⟨_, rfl⟩
  have hg : ∀ j, j < 3 → w.cell? ⟨b, i * 3 + j, none⟩ = (Wd.cells x)[j]? := by
    intro j hj
    have e : (⟨b, 0, none⟩ : Addr).add (i * 3 + j) = ⟨b, i * 3 + j, none⟩ := by
      unfold Addr.add; split
      · next h0 => rw [h0]
      · simp
    rw [← e]
    have h1 := flat_get Wd.cells 3 Wd.cells_length E.c.words i j x hx hj
    have h2 : (Wd.cells x)[j]? = some ((Wd.cells x)[j]'(by rw [Wd.cells_length]; exact hj)) := List.getElem?_eq_getElem _
    rw [h2]
    exact r3.cells rfl _ _ (h1.trans h2)
  exact ⟨b, cw, c2, hg 0 (by omega), hg 1 (by omega), hg 2 (by omega)⟩

set_option maxHeartbeats 400000 in
/-- A word that is there. -/
theorem e_find_yes (w : World) (h : Hd) (i n b cw : Nat) (hi : i < n) (hn : n ≤ 600) (c2 : w.cell? ⟨h.g, 2, none⟩ = some (.slice (some ⟨b, 0, none⟩) n cw)) :
    Calls Tryz.prog 38 #[gp h, .int .i64 ((i : Int) + 1)] w fun e w' => e = .returned (.pointer (some ⟨b, i * 3, none⟩)) ∧ w = w' := by
  go_enter Tryz.func38, Tryz.ntmps38
  go_wp2
  go_ret
  exact ⟨rfl, rfl⟩

set_option maxHeartbeats 400000 in
/-- A word that is not there. -/
theorem e_find_no (w : World) (o : Owner) (k : Nat) (h : Hd) (E : Eng) (he : EngAt w o k h E) (x : Int) (hx : x < 1 ∨ (E.c.words.length : Int) < x) :
    Calls Tryz.prog 38 #[gp h, .int .i64 x] w fun e w' => e = .returned (.pointer none) ∧ w = w' := by
  have hle : E.c.words.length ≤ 600 := he.1.2.2.2.2.1
  obtain ⟨ac, cc, ae, ce, aw, cw, c0, c1, c2, c3, c4, c5, c6, c7, c8, fz, hlt, r1, r2, r3⟩ := he.1.open
  by_cases h1 : x < 1
  · go_enter Tryz.func38, Tryz.ntmps38
    go_wp2
    go_ret
    exact ⟨rfl, rfl⟩
  · have h2 : (E.c.words.length : Int) < x := by omega
    go_enter Tryz.func38, Tryz.ntmps38
    go_wp2
    go_ret
    exact ⟨rfl, rfl⟩

set_option maxHeartbeats 400000 in
theorem e_Exec_yes (w : World) (o : Owner) (k : Nat) (h : Hd) (E : Eng) (he : EngAt w o k h E) (hwf : Wf w o) (i : Nat) (hi : i < E.c.words.length) :
    Calls Tryz.prog 12 #[gp h, .int .i64 ((i : Int) + 1)] w fun e w' => e = .returned (.int .i64 0) ∧ Mod (InE k) w o w' o ∧ EngAt w' o k h { E with c := { E.c with next := (i : Int) + 1 } } := by
  have hx : E.c.words[i]? = some E.c.words[i] := List.getElem?_eq_getElem hi
  have hle : E.c.words.length ≤ 600 := he.1.2.2.2.2.1
  obtain ⟨b, cw', hcw, g0, g1, g2⟩ := he.wordsAt hx
  obtain ⟨ac, cc, ae, ce, aw, cw, c0, c1, c2, c3, c4, c5, c6, c7, c8, fz, hlt, r1, r2, r3⟩ := he.1.open
  go_enter Tryz.func12, Tryz.ntmps12
  go_wp2_with fail
  refine (e_find_yes w h i _ b cw' hi hle hcw).mono ?_
  rintro e w1 ⟨rfl, rfl⟩
  go_wp2
  go_ret
  obtain ⟨m1, he1⟩ := he.withNext hwf ((i : Int) + 1)
  exact ⟨rfl, m1, he1⟩

set_option maxHeartbeats 400000 in
theorem e_push (w : World) (o : Owner) (k : Nat) (h : Hd) (E : Eng) (he : EngAt w o k h E) (hwf : Wf w o) (x : Int) :
    Calls Tryz.prog 63 #[gp h, .int .i64 x] w fun e w' => e = .returned (.int .i64 (putS E.s.stack [x]).2) ∧ ∃ o', Mod (InE k) w o w' o' ∧ EngAt w' o' k h { E with s := { E.s with stack := (putS E.s.stack [x]).1 } } := by
  obtain ⟨ac, cc, ae, ce, aw, cw, c0, c1, c2, c3, c4, c5, c6, c7, c8, fz, hlt, r1, r2, r3⟩ := he.1.open
  go_enter Tryz.func63, Tryz.ntmps63
  go_wp2_with (go_at_call 16; refine (p_Stack w o k h E he).mono ?_; rintro e w' ⟨rfl, rfl⟩)
  refine (stack_Push w o _ _ _ he.2.2.1.1 hwf x).mono ?_
  rintro e w1 ⟨rfl, o1, hm, hs⟩
  go_wp2
  go_ret
  obtain ⟨m1, he1⟩ := he.fullStack hm hs
  exact ⟨rfl, o1, m1, he1⟩

set_option maxHeartbeats 400000 in
theorem e_done_ok (w : World) (o : Owner) (hwf : Wf w o) (h : Hd) :
    Calls Tryz.prog 60 #[gp h, .int .i64 0] w fun e w' => e = .returned ran ∧ Mod (fun _ => False) w o w' o := by
  go_enter Tryz.func60, Tryz.ntmps60
  go_wp2
  refine bodyPost_ret (v := ran) (by simp [results, Tryz.results60, go_sem]) rfl ?_
  refine ⟨rfl, ?_⟩
  (repeat (refine Mod.setNew ?_ _ _ (by simp)))
  exact (Mod.refl _ hwf).alloc _

set_option maxHeartbeats 400000 in
theorem e_call_ok (w : World) (o : Owner) (k : Nat) (h : Hd) (E : Eng) (he : EngAt w o k h E) (hwf : Wf w o) (n : Int) (h1 : 1 ≤ n) (h2 : n ≤ E.c.ends.length) (hf : E.fs.length < 128) :
    Calls Tryz.prog 62 #[gp h, .int .i64 n] w fun e w' => e = .returned (.int .i64 0) ∧ ∃ o', Mod (InE k) w o w' o' ∧ EngAt w' o' k h { E with fs := E.fs ++ [⟨1, E.c.def_, E.c.on, 0, 0, []⟩], c := { E.c with def_ := n, on := 0 } } := by
  have hle : E.c.ends.length ≤ 300 := he.1.2.2.2.1
  obtain ⟨ac, cc, ae, ce, aw, cw, c0, c1, c2, c3, c4, c5, c6, c7, c8, fz, hlt, r1, r2, r3⟩ := he.1.open
  have hp : pushF E.fs ⟨1, E.c.def_, E.c.on, 0, 0, []⟩ = (E.fs ++ [⟨1, E.c.def_, E.c.on, 0, 0, []⟩], 0) := if_pos hf
  have q1 : ¬ (n < 1) := by omega
  have q2 : ¬ ((E.c.ends.length : Int) < n) := by omega
  go_enter Tryz.func62, Tryz.ntmps62
  go_wp2_with fail
  go_region_held3 (fun w' => w'.cell? ⟨h.g, 3, none⟩ = some (.pointer (some ⟨h.fr, 0, none⟩)) ∧ w'.cell? ⟨h.g, 4, none⟩ = some (.int .i64 E.c.def_) ∧ w'.cell? ⟨h.g, 5, none⟩ = some (.int .i64 E.c.on))
    (go_keep)
    ((go_simp; go_at_call 22; refine (frames_Push _ o _ _ _ (he.2.1.kept (Mod.refl (fun _ => False) hwf).drew (fun h => h)) hwf ⟨1, E.c.def_, E.c.on, 0, 0, []⟩ (.slice none 0 0) 0 (by simp) (Rd.nil _ _ _ _)).mono ?_
      rw [hp]; rintro e w1 ⟨rfl, o1, hm1, hs1⟩
      obtain ⟨m1, he1⟩ := (he.same (Mod.refl (fun _ => False) hwf).drew).fullFrames hm1 hs1
      obtain ⟨ac', cc', ae', ce', aw', cw', d0, d1, d2, d3, d4, d5, d6, d7, d8, fz', hlt', r1', r2', r3'⟩ := he1.1.open
      dsimp only at d3 d4 d5))
  go_wp2_with fail
  refine (e_place w1 o1 k h _ he1 m1.wf n 0).mono ?_
  rintro e w2 ⟨rfl, m2, he2⟩
  go_wp2
  go_ret
  exact ⟨rfl, o1, ((Mod.refl _ hwf).drew.trans m1).trans m2, he2⟩

end Go.Proofs.YtjcaidbkbdkpeaaGreatDoor
