/- The objects: sources, the state, the engine; how they lie in memory; and how they are made. -/
import Derived.Test.YtjcaidbkbdkpeaaGreatDoorPop
import Derived.Test.YtjcaidbkbdkpeaaGreatDoorMem
namespace Go.Proofs.YtjcaidbkbdkpeaaGreatDoor
open Go Go.RowKit Go.Rh

/-- A source: its text, its number, where it is being read. -/
structure One where
  text : ByteArray
  id : Int
  in_ : Int

abbrev oneL (s : One) : List Value := [.string s.text, .int .i64 s.id, .int .i64 s.in_]
def One.cells (s : One) : List Value := oneL s
theorem One.cells_length (s : One) : s.cells.length = 3 := rfl
def one0 : One := ⟨ByteArray.empty, 0, 0⟩

/-- The sources: the last one, those ahead of it, how many there were. -/
structure Inp where
  cur : One
  outer : List One
  many : Int

def inp0 : Inp := ⟨one0, [], 0⟩

theorem elOne : El Tryz.prog 109 108 3 32 := El.mk' (z := .agg #[.string ByteArray.empty, .int .i64 0, .int .i64 0]) Tryz.underlying109 (by kernel_rfl) rfl (by decide)

def InputAt (w : World) (o : Owner) (t p : Nat) (I : Inp) : Prop :=
  t ≠ 0 ∧ o p = t ∧ I.outer.length ≤ 8 ∧ ∃ v, Blk w p [.string I.cur.text, .int .i64 I.cur.id, .int .i64 I.cur.in_, v, .int .i64 I.outer.length, .int .i64 I.many] 111 ∧ Row w o t 108 3 v I.outer.length (I.outer.flatMap One.cells)

theorem InputAt.to {w w1 : World} {o o1 : Owner} {t p : Nat} {I : Inp} (h : InputAt w o t p I) (m : KeptAt t w o w1 o1) : InputAt w1 o1 t p I := by
  obtain ⟨h0, h1, h2, v, hb, hr⟩ := h
  exact ⟨h0, (m p hb.lt h1).2.trans h1, h2, v, hb.to (m p hb.lt h1).1, hr.to (fun k hk hlt => m k hlt (hr.2 k hk))⟩
theorem InputAt.kept {T : Nat → Prop} {w w1 : World} {o o1 : Owner} {t p : Nat} {I : Inp} (h : InputAt w o t p I) (m : Mod T w o w1 o1) (hT : ¬ T t) : InputAt w1 o1 t p I := h.to (m.keptAt hT)

set_option maxHeartbeats 400000 in
theorem source_New (w : World) (o : Owner) (hwf : Wf w o) (t : Nat) (ht : t ≠ 0) :
    Calls Tryz.prog 25 #[] w fun e w' => ∃ p, e = .returned (.pointer (some ⟨p, 0, none⟩)) ∧ ∃ o', Mod (fun _ => False) w o w' o' ∧ InputAt w' o' t p inp0 := by
  go_enter Tryz.func25, Tryz.ntmps25
  go_wp2
  go_ret
  exact ⟨_, rfl, _, (Mod.refl _ hwf).allocTo _ t, ht, Owner.put_same _ _ _, by decide, _, Blk.new w [.string ByteArray.empty, .int .i64 0, .int .i64 0, .slice none 0 0, .int .i64 0, .int .i64 0] _, Row.nil _ _ _ _ _⟩

/-- The places of an engine's objects. -/
structure Hd where
  g : Nat
  st : Nat
  tl : Nat
  sp : Nat
  mp : Nat
  fr : Nat
  inp : Nat

/-- The state's own: what was told, and the number that is being made. -/
def TellAt (w : World) (o : Owner) (k : Nat) (h : Hd) (out made : List Int) : Prop :=
  o h.st = k + 6 ∧ o h.tl = k + 6 ∧ out.length ≤ 4000 ∧ made.length ≤ 200 ∧
    ∃ vo vm, Blk w h.st [.pointer (some ⟨h.tl, 0, none⟩), .pointer (some ⟨h.sp, 0, none⟩), .pointer (some ⟨h.mp, 0, none⟩), vm] 88 ∧ Blk w h.tl [vo] 106 ∧
      Row w o (k + 6) 5 1 vo out.length (out.map bv) ∧ Row w o (k + 7) 5 1 vm made.length (made.map bv)

theorem TellAt.kept {T : Nat → Prop} {w w1 : World} {o o1 : Owner} {k : Nat} {h : Hd} {out made : List Int} (ht : TellAt w o k h out made) (m : Mod T w o w1 o1) (h6 : ¬ T (k + 6)) (h7 : ¬ T (k + 7)) : TellAt w1 o1 k h out made := by
  obtain ⟨h1, h2, h3, h4, vo, vm, hb, hc, ho, hm⟩ := ht
  exact ⟨(m.own _ hb.lt).trans h1, (m.own _ hc.lt).trans h2, h3, h4, vo, vm, hb.kept m (by rw [h1]; exact h6), hc.kept m (by rw [h2]; exact h6), ho.kept m h6, hm.kept m h7⟩

/-- A state: its stack, its memory, what was told, what is being made. -/
structure St where
  stack : List Int
  mem : List Int
  here : Nat
  out : List Int
  made : List Int

def StateAt (w : World) (o : Owner) (k : Nat) (h : Hd) (S : St) : Prop :=
  StackAt w o (k + 1) h.sp S.stack ∧ MemAt w o (k + 5) h.mp S.mem S.here ∧ TellAt w o k h S.out S.made

theorem StateAt.kept {T : Nat → Prop} {w w1 : World} {o o1 : Owner} {k : Nat} {h : Hd} {S : St} (hs : StateAt w o k h S) (m : Mod T w o w1 o1) (h1 : ¬ T (k + 1)) (h5 : ¬ T (k + 5)) (h6 : ¬ T (k + 6)) (h7 : ¬ T (k + 7)) : StateAt w1 o1 k h S :=
  ⟨hs.1.kept m h1, hs.2.1.kept m h5, hs.2.2.kept m h6 h7⟩

/-- What belongs to the engine whose owners begin at k. -/
def InE (k x : Nat) : Prop := k < x ∧ x ≤ k + 7

/-- A state that is new. -/
def st0 (n : Nat) : St := ⟨[], putB (List.replicate n 0) 0 10, 8, [], []⟩

set_option maxHeartbeats 1000000 in
theorem prim_New (w : World) (o : Owner) (hwf : Wf w o) (k n : Nat) (h1 : 1024 ≤ n) (h2 : n ≤ 65536) (h3 : n % 8 = 0) :
    Calls Tryz.prog 24 #[.int .i64 n] w fun e w' => ∃ st, e = .returned (.tuple #[.pointer (some ⟨st, 0, none⟩), .int .i64 0]) ∧ ∃ h o', h.st = st ∧ Mod (InE k) w o w' o' ∧ StateAt w' o' k h (st0 n) := by
  go_enter Tryz.func24, Tryz.ntmps24
  go_wp2_with fail
  refine (mem_New w o hwf (k + 5) (by omega) n h1 h2 h3).mono ?_
  rintro e w1 ⟨mp, rfl, o1, hm1, hs1⟩
  go_wp2_with fail
  have hl : (List.replicate n (0 : Int)).length = n := by simp
  refine (mem_Comma _ o1 (k + 5) mp _ 0 hs1 hm1.wf rfl (by rw [hl]; omega) 10).mono ?_
  rintro e w2 ⟨rfl, hm2, hs2⟩
  go_wp2_with fail
  have hm3 := (Mod.refl (fun _ => False) hm2.wf).allocTo (.cells #[.slice none 0 0] 106) (k + 6)
  refine (stack_New _ _ hm3.wf (k + 1) (by omega)).mono ?_
  rintro e w4 ⟨sp, o4, rfl, hm4, hs4⟩
  have ht4 := (Blk.new w2 [.slice none 0 0] 106).kept hm4 (fun h => h)
  have ho4 : o4 w2.heap.size = k + 6 := (hm4.own _ (by simp)).trans (Owner.put_same _ _ _)
  have hs2' := (hs2.kept ((Mod.refl (fun _ => False) hm2.wf).allocTo (.cells #[.slice none 0 0] 106) (k + 6)) (fun h => h)).kept hm4 (fun h => h)
  have hm5 := (Mod.refl (fun _ => False) hm4.wf).allocTo (.cells #[.pointer (some ⟨w2.heap.size, 0, none⟩), .pointer (some ⟨sp, 0, none⟩), .pointer (some ⟨mp, 0, none⟩), .slice none 0 0] 88) (k + 6)
  go_wp2
  go_ret2
  have hall : Mod (InE k) w o w2 o1 := (hm1.mono (fun _ h => h.elim)).trans (hm2.mono (fun x h => by subst h; exact ⟨by omega, by omega⟩))
  refine ⟨_, rfl, ⟨0, w4.heap.size, w2.heap.size, sp, mp, 0, 0⟩, _, rfl, hall.trans (((hm3.trans hm4).trans hm5).mono (fun _ h => h.elim)), hs4.kept hm5 (fun h => h), hs2'.kept hm5 (fun h => h), Owner.put_same _ _ _, ?_, Nat.zero_le _, Nat.zero_le _, _, _, Blk.new w4 [.pointer (some ⟨w2.heap.size, 0, none⟩), .pointer (some ⟨sp, 0, none⟩), .pointer (some ⟨mp, 0, none⟩), .slice none 0 0] _, ht4.kept hm5 (fun h => h), Row.nil _ _ _ _ _, Row.nil _ _ _ _ _⟩
  exact (hm5.own _ ht4.lt).trans ho4

/-- What an engine has of its own: the cells of its definitions, where each ends, its words, where it goes on. -/
structure Wd where
  kind : Int
  n : Int
  w : Int
deriving DecidableEq, Inhabited

abbrev wdL (x : Wd) : List Value := [.int .i64 x.kind, .int .i64 x.n, .int .i64 x.w]
def Wd.cells (x : Wd) : List Value := wdL x
theorem Wd.cells_length (x : Wd) : x.cells.length = 3 := rfl

structure Core where
  code : List Int
  ends : List Int
  words : List Wd
  def_ : Int
  on : Int
  next : Int

theorem elInt : El Tryz.prog 31 3 1 8 := El.mk' (z := .int .i64 0) Tryz.underlying31 (by kernel_rfl) rfl (by decide)
theorem elWord : El Tryz.prog 77 33 3 24 := El.mk' (z := .agg #[.int .i64 0, .int .i64 0, .int .i64 0]) Tryz.underlying77 (by kernel_rfl) rfl (by decide)

def CoreAt (w : World) (o : Owner) (t : Nat) (h : Hd) (C : Core) : Prop :=
  t ≠ 0 ∧ o h.g = t ∧ C.code.length ≤ 400000 ∧ C.ends.length ≤ 300 ∧ C.words.length ≤ 600 ∧ ∃ vc ve vw, Blk w h.g [vc, ve, vw, .pointer (some ⟨h.fr, 0, none⟩), .int .i64 C.def_, .int .i64 C.on, .int .i64 C.next, .pointer (some ⟨h.st, 0, none⟩), .pointer (some ⟨h.inp, 0, none⟩)] 79 ∧
    Row w o t 27 1 vc C.code.length (C.code.map cv) ∧ Row w o t 3 1 ve C.ends.length (C.ends.map cv) ∧ Row w o t 33 3 vw C.words.length (C.words.flatMap Wd.cells)

theorem CoreAt.to {w w1 : World} {o o1 : Owner} {t : Nat} {h : Hd} {C : Core} (hc : CoreAt w o t h C) (m : KeptAt t w o w1 o1) : CoreAt w1 o1 t h C := by
  obtain ⟨h0, h1, h2, h3, h4, vc, ve, vw, hb, r1, r2, r3⟩ := hc
  exact ⟨h0, (m _ hb.lt h1).2.trans h1, h2, h3, h4, vc, ve, vw, hb.to (m _ hb.lt h1).1, r1.to (fun k hk hlt => m k hlt (r1.2 k hk)), r2.to (fun k hk hlt => m k hlt (r2.2 k hk)), r3.to (fun k hk hlt => m k hlt (r3.2 k hk))⟩
theorem CoreAt.kept {T : Nat → Prop} {w w1 : World} {o o1 : Owner} {t : Nat} {h : Hd} {C : Core} (hc : CoreAt w o t h C) (m : Mod T w o w1 o1) (hT : ¬ T t) : CoreAt w1 o1 t h C := hc.to (m.keptAt hT)

/-- An engine. -/
structure Eng where
  c : Core
  fs : List Fr
  s : St
  i : Inp

def EngAt (w : World) (o : Owner) (k : Nat) (h : Hd) (E : Eng) : Prop :=
  CoreAt w o (k + 3) h E.c ∧ FramesAt w o (k + 2) h.fr E.fs ∧ StateAt w o k h E.s ∧ InputAt w o (k + 4) h.inp E.i

theorem EngAt.kept {T : Nat → Prop} {w w1 : World} {o o1 : Owner} {k : Nat} {h : Hd} {E : Eng} (he : EngAt w o k h E) (m : Mod T w o w1 o1) (hT : ∀ x, InE k x → ¬ T x) : EngAt w1 o1 k h E :=
  ⟨he.1.kept m (hT _ ⟨by omega, by omega⟩), he.2.1.kept m (hT _ ⟨by omega, by omega⟩), he.2.2.1.kept m (hT _ ⟨by omega, by omega⟩) (hT _ ⟨by omega, by omega⟩) (hT _ ⟨by omega, by omega⟩) (hT _ ⟨by omega, by omega⟩), he.2.2.2.kept m (hT _ ⟨by omega, by omega⟩)⟩

def core0 : Core := ⟨[], [], [], 0, 0, 0⟩

set_option maxHeartbeats 400000 in
theorem engine_New (w : World) (o : Owner) (hwf : Wf w o) (k : Nat) (h : Hd) (S : St) (I : Inp) (hs : StateAt w o k h S) (inp : Nat) (hi : InputAt w o (k + 4) inp I) :
    Calls Tryz.prog 27 #[.pointer (some ⟨h.st, 0, none⟩), .pointer (some ⟨inp, 0, none⟩)] w fun e w' => ∃ g, e = .returned (.pointer (some ⟨g, 0, none⟩)) ∧ ∃ h' o', h'.g = g ∧ h'.st = h.st ∧ h'.sp = h.sp ∧ h'.mp = h.mp ∧ h'.inp = inp ∧ Mod (fun _ => False) w o w' o' ∧ EngAt w' o' k h' ⟨core0, [], S, I⟩ := by
  go_enter Tryz.func27, Tryz.ntmps27
  go_wp2_with fail
  refine (frames_New w o hwf (k + 2) (by omega)).mono ?_
  rintro e w1 ⟨fr, o1, rfl, hm1, hf1⟩
  go_wp2
  go_ret
  have hm2 := hm1.allocTo (.cells #[.slice none 0 0, .slice none 0 0, .slice none 0 0, .pointer (some ⟨fr, 0, none⟩), .int .i64 0, .int .i64 0, .int .i64 0, .pointer (some ⟨h.st, 0, none⟩), .pointer (some ⟨inp, 0, none⟩)] 79) (k + 3)
  have hm3 := (Mod.refl (fun _ => False) hm1.wf).allocTo (.cells #[.slice none 0 0, .slice none 0 0, .slice none 0 0, .pointer (some ⟨fr, 0, none⟩), .int .i64 0, .int .i64 0, .int .i64 0, .pointer (some ⟨h.st, 0, none⟩), .pointer (some ⟨inp, 0, none⟩)] 79) (k + 3)
  refine ⟨_, rfl, { h with g := w1.heap.size, fr := fr, inp := inp }, _, rfl, rfl, rfl, rfl, rfl, hm2, ?_, hf1.kept hm3 (fun h => h), ?_, hi.kept hm2 (fun h => h)⟩
  · exact ⟨by omega, Owner.put_same _ _ _, Nat.zero_le _, Nat.zero_le _, Nat.zero_le _, _, _, _, Blk.new w1 [.slice none 0 0, .slice none 0 0, .slice none 0 0, .pointer (some ⟨fr, 0, none⟩), .int .i64 0, .int .i64 0, .int .i64 0, .pointer (some ⟨h.st, 0, none⟩), .pointer (some ⟨inp, 0, none⟩)] _, Row.nil _ _ _ _ _, Row.nil _ _ _ _ _, Row.nil _ _ _ _ _⟩
  · have := hs.kept hm2 (fun h => h) (fun h => h) (fun h => h) (fun h => h)
    exact this

end Go.Proofs.YtjcaidbkbdkpeaaGreatDoor
