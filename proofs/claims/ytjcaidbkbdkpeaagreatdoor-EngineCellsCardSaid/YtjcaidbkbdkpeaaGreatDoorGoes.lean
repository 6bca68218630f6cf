/- A run of an engine, step by step. -/
import Derived.Test.YtjcaidbkbdkpeaaGreatDoorStep
import Derived.Test.YtjcaidbkbdkpeaaGreatDoorLay
namespace Go.Proofs.YtjcaidbkbdkpeaaGreatDoor
open Go Go.RowKit Go.Rh

/-- One step takes an engine from E to E2. -/
def StepTo (k : Nat) (h : Hd) (E E2 : Eng) (s1 s2 s3 : Int) : Prop :=
  ∀ (w : World) (o : Owner), Wf w o → Env w o → EngAt w o k h E →
    Calls Tryz.prog 20 #[gp h] w fun e w' => e = .returned (stat s1 s2 s3) ∧ ∃ o', Mod (InE k) w o w' o' ∧ EngAt w' o' k h E2

/-- So many steps, each of which goes on. -/
inductive Goes (k : Nat) (h : Hd) : Nat → Eng → Eng → Prop
  | refl (E : Eng) : Goes k h 0 E E
  | step {n : Nat} {E E1 E2 : Eng} : StepTo k h E E1 1 0 0 → Goes k h n E1 E2 → Goes k h (n + 1) E E2

theorem Goes.one {k : Nat} {h : Hd} {E E1 : Eng} (s : StepTo k h E E1 1 0 0) : Goes k h 1 E E1 := .step s (.refl _)
theorem Goes.trans {k : Nat} {h : Hd} {n m : Nat} {E E1 E2 : Eng} (a : Goes k h n E E1) (b : Goes k h m E1 E2) : Goes k h (n + m) E E2 := by
  induction a with
  | refl E => rwa [Nat.zero_add]
  | step s _ ih => rw [Nat.add_right_comm]; exact .step s (ih b)

/-- An engine that is at a place of its definition, with such a stack. -/
def Eng.to (E : Eng) (on : Int) (st : List Int) : Eng := { E with c := { E.c with on := on }, s := { E.s with stack := st } }

/-- An engine within the definition n, whose instruction i is such. -/
structure AtI (E : Eng) (n i : Nat) (op a x : Int) : Prop where
  next : E.c.next = 0
  def_ : E.c.def_ = (n : Int) + 1
  ins : InsAt E.c n i op a x
  top : ∃ Fs f, E.fs = Fs ++ [f] ∧ f.l.length ≤ 1000 ∧ f.kind ≠ 6 ∧ f.kind ≠ 7 ∧ f.kind ≠ 4

section
variable {k : Nat} {h : Hd} {E : Eng} {n i : Nat} {a x : Int} {st : List Int}

theorem step_at {op : Int} {E2 : Eng} (hA : AtI E n i op a x)
    (hd : ∀ w1 o1, Wf w1 o1 → EngAt w1 o1 k h (E.to ((i : Int) + 1) st) → Calls Tryz.prog 45 #[gp h, insV op a x] w1 fun e w' => e = .returned ran ∧ ∃ o', Mod (InE k) w1 o1 w' o' ∧ EngAt w' o' k h E2) :
    StepTo k h (E.to i st) E2 1 0 0 := by
  intro w o hwf hE he
  obtain ⟨Fs, f, hf, hl, h6, h7, h4⟩ := hA.top
  exact step_ins w o k h (E.to i st) E2 he hwf hA.next Fs f hf hl h6 h7 n i hA.def_ rfl op a x ⟨hA.ins.nl, hA.ins.op0, hA.ins.op1, hA.ins.a0, hA.ins.a1, hA.ins.lay⟩ 1 0 0 hd

theorem to_lit (hA : AtI E n i 1 a x) (hfit : st.length < 128) : StepTo k h (E.to i st) (E.to ((i : Int) + 1) (st ++ [x])) 1 0 0 :=
  step_at hA fun w1 o1 hwf he => does_lit w1 o1 k h _ he hwf a x hfit
theorem to_jump (hA : AtI E n i 3 a x) : StepTo k h (E.to i st) (E.to a st) 1 0 0 :=
  step_at hA fun w1 o1 hwf he => does_jump w1 o1 k h _ he hwf a x
theorem to_zero (hA : AtI E n i 4 a x) (y : Int) : StepTo k h (E.to i (st ++ [y])) (E.to (if y = 0 then a else (i : Int) + 1) st) 1 0 0 :=
  step_at hA fun w1 o1 hwf he => does_zero w1 o1 k h _ he hwf a x st y rfl _ rfl
theorem to_of_same (hA : AtI E n i 10 a x) (hfit : st.length < 128) (y : Int) : StepTo k h (E.to i (st ++ [y, y])) (E.to ((i : Int) + 1) st) 1 0 0 :=
  step_at hA fun w1 o1 hwf he => does_of w1 o1 k h _ he hwf a x st y y rfl hfit _ _ (by rw [if_pos rfl]; rfl)
theorem to_of_other (hA : AtI E n i 10 a x) (hfit : st.length < 128) (y z : Int) (hyz : y ≠ z) : StepTo k h (E.to i (st ++ [y, z])) (E.to a (st ++ [y])) 1 0 0 :=
  step_at hA fun w1 o1 hwf he => does_of w1 o1 k h _ he hwf a x st y z rfl hfit _ _ (by rw [if_neg hyz])
theorem to_drop (hA : AtI E n i 11 a x) (y : Int) : StepTo k h (E.to i (st ++ [y])) (E.to ((i : Int) + 1) st) 1 0 0 :=
  step_at hA fun w1 o1 hwf he => does_drop w1 o1 k h _ he hwf a x st y rfl
/-- An engine without a place. -/
def Eng.off (E : Eng) (st : List Int) : Eng := { E with c := { E.c with def_ := 0, on := 0 }, s := { E.s with stack := st } }
theorem to_exit (hA : AtI E n i 15 a x) : StepTo k h (E.to i st) (E.off st) 1 0 0 := by
  obtain ⟨Fs, f, hf, hl, h6, h7, h4⟩ := hA.top
  exact step_at hA fun w1 o1 hwf he => does_exit w1 o1 k h _ he hwf a x Fs f hf hl h4

/-- A frame of a call comes back. -/
theorem to_back {Fs : List Fr} {d b y z : Int} (hn : E.c.next = 0) (hf : E.fs = Fs ++ [⟨1, d, b, y, z, []⟩]) : StepTo k h (E.off st) { E with fs := Fs, c := { E.c with def_ := d, on := b }, s := { E.s with stack := st } } 1 0 0 := by
  intro w o hwf hE he
  exact step_ret w o k h (E.off st) _ he hwf hn rfl ⟨1, d, b, y, z, []⟩ true (.inr ⟨Fs, hf, by simp, rfl⟩) (by simp) (by simp) 1 0 0 fun w1 o1 hwf1 he1 => returns_call w1 o1 k h _ he1 hwf1 Fs d b y z hf
/-- There is nothing to go on with. -/
theorem to_halt (hn : E.c.next = 0) (hd : E.c.def_ = 0) (hf : E.fs = []) : StepTo k h E E 5 0 0 := by
  intro w o hwf hE he
  exact step_ret w o k h E _ he hwf hn hd fr0 false (.inl ⟨hf, rfl, rfl⟩) (by decide) (by decide) 5 0 0 fun w1 o1 hwf1 he1 => returns_halt w1 o1 k h _ he1 hwf1 hf
/-- A word of a definition is executed. -/
theorem to_colon {m : Nat} {d : Nat} {y : Int} (hn : E.c.next = (m : Int) + 1) (hw : E.c.words[m]? = some ⟨5, (d : Int) + 1, y⟩) (hd : d < E.c.ends.length) (hf : E.fs.length < 128) :
    StepTo k h E { E with fs := E.fs ++ [⟨1, E.c.def_, E.c.on, 0, 0, []⟩], c := { E.c with def_ := (d : Int) + 1, on := 0, next := 0 } } 1 0 0 := by
  intro w o hwf hE he
  exact step_exec w o k h E _ he hwf m hn 1 0 0 fun w1 o1 hwf1 he1 => exec_colon w1 o1 k h _ he1 hwf1 m _ y hw (by omega) (by show (d : Int) + 1 ≤ E.c.ends.length; omega) hf
end

/-- What lies behind a definition that is laid first. -/
theorem insAt_first (C : Core) (d : List In1) (hcode : C.code = encI d) (hends : C.ends = [((encI d).length : Int)]) {i : Nat} {x : In1} (hi : d[i]? = some x) (h0 : 0 ≤ x.op) (h1 : x.op < 256) (h2 : 0 ≤ x.a) (h3 : x.a ≤ 100000) : InsAt C 0 i x.op x.a x.x := by
  have hl : (encI d).length = d.length * 2 := by unfold encI; exact flat_length enc1 2 (fun _ => rfl) d
  have hil : i < d.length := (List.getElem?_eq_some_iff.1 hi).1
  refine ⟨by rw [hends]; simp, h0, h1, h2, h3, 0, (encI d).length, by simp [beginN], by rw [hends]; rfl, by omega, by rw [hcode]; exact Nat.le_refl _, ?_, ?_⟩
  · rw [hcode]
    have := flat_get enc1 2 (fun _ => rfl) d i 0 x hi (by omega)
    rw [show 0 + 2 * i = i * 2 + 0 by omega]; exact this
  · rw [hcode]
    have := flat_get enc1 2 (fun _ => rfl) d i 1 x hi (by omega)
    rw [show 0 + 2 * i + 1 = i * 2 + 1 by omega]; exact this
end Go.Proofs.YtjcaidbkbdkpeaaGreatDoor
