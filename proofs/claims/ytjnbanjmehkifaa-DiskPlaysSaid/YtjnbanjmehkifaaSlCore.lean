/- A small separation logic over the walk's rules: states are a list of known slots and a list of assertions on memory. -/
import Derived.WalkKit
namespace Go.SL

abbrev Hp := Nat → Option Obj
def Hp.le (h k : Hp) : Prop := ∀ b o, h b = some o → k b = some o
def Hp.dis (h k : Hp) : Prop := ∀ b o, h b = some o → k b = none
def Hp.un (h k : Hp) : Hp := fun b => match h b with | some o => some o | none => k b
def Hp.emp : Hp := fun _ => none
def Hp.one (b : Nat) (o : Obj) : Hp := fun x => if x = b then some o else none
def hpOf (w : World) : Hp := fun b => w.heap[b]?

theorem Hp.le_refl (h : Hp) : Hp.le h h := fun _ _ e => e
theorem Hp.le_trans {a b c : Hp} (h : Hp.le a b) (k : Hp.le b c) : Hp.le a c := fun x o e => k x o (h x o e)
theorem Hp.dis_symm {a b : Hp} (h : Hp.dis a b) : Hp.dis b a := by
  intro x o e
  cases ha : a x with
  | none => rfl
  | some y => have := h x y ha; simp [this] at e
theorem Hp.un_le {a b c : Hp} (h : Hp.le a c) (k : Hp.le b c) : Hp.le (Hp.un a b) c := by
  intro x o e
  simp only [Hp.un] at e
  cases ha : a x with
  | none => rw [ha] at e; exact k x o e
  | some y => rw [ha] at e; exact h x o (by rw [ha]; exact e)
theorem Hp.le_un_left (a b : Hp) : Hp.le a (Hp.un a b) := by intro x o e; simp [Hp.un, e]
theorem Hp.le_un_right {a b : Hp} (hd : Hp.dis a b) : Hp.le b (Hp.un a b) := by
  intro x o e
  have := Hp.dis_symm hd x o e
  simp [Hp.un, this, e]
theorem Hp.un_emp (a : Hp) : Hp.un a Hp.emp = a := by
  funext x; simp only [Hp.un, Hp.emp]; cases a x <;> rfl
theorem Hp.emp_un (a : Hp) : Hp.un Hp.emp a = a := by
  funext x; simp [Hp.un, Hp.emp]
theorem Hp.un_assoc (a b c : Hp) : Hp.un (Hp.un a b) c = Hp.un a (Hp.un b c) := by
  funext x; simp only [Hp.un]; cases a x <;> simp
theorem Hp.un_comm {a b : Hp} (h : Hp.dis a b) : Hp.un a b = Hp.un b a := by
  funext x
  simp only [Hp.un]
  cases ha : a x with
  | none => cases hb : b x <;> rfl
  | some y => have := h x y ha; simp [this]
theorem Hp.dis_un {a b c : Hp} (h : Hp.dis a c) (k : Hp.dis b c) : Hp.dis (Hp.un a b) c := by
  intro x o e
  simp only [Hp.un] at e
  cases ha : a x with
  | none => rw [ha] at e; exact k x o e
  | some y => exact h x y ha
theorem Hp.dis_of_un_left {a b c : Hp} (h : Hp.dis (Hp.un a b) c) : Hp.dis a c := by
  intro x o e; exact h x o (by simp [Hp.un, e])
theorem Hp.dis_of_un_right {a b c : Hp} (hd : Hp.dis a b) (h : Hp.dis (Hp.un a b) c) : Hp.dis b c := by
  intro x o e; exact h x o (Hp.le_un_right hd x o e)
theorem Hp.dis_un_right {a b c : Hp} (h : Hp.dis c a) (k : Hp.dis c b) : Hp.dis c (Hp.un a b) :=
  Hp.dis_symm (Hp.dis_un (Hp.dis_symm h) (Hp.dis_symm k))
theorem Hp.dis_emp (a : Hp) : Hp.dis a Hp.emp := fun _ _ _ => rfl
theorem Hp.emp_dis (a : Hp) : Hp.dis Hp.emp a := fun _ _ h => by simp [Hp.emp] at h
theorem Hp.emp_le (a : Hp) : Hp.le Hp.emp a := fun _ _ h => by simp [Hp.emp] at h
theorem Hp.dis_mono {a b a' : Hp} (h : Hp.dis a b) (k : Hp.le a' a) : Hp.dis a' b := fun x o e => h x o (k x o e)

/-- An assertion: on what is owned, and on what is never written any more. -/
structure Assn where
  holds : Hp → Hp → Prop
  mono : ∀ h m m', Hp.le m m' → holds h m → holds h m'

def sepL : List Assn → Hp → Hp → Prop
  | [], h, _ => h = Hp.emp
  | A :: l, h, m => ∃ h1 h2, Hp.dis h1 h2 ∧ h = Hp.un h1 h2 ∧ A.holds h1 m ∧ sepL l h2 m

theorem sepL_mono : ∀ (H : List Assn) (h m m' : Hp), Hp.le m m' → sepL H h m → sepL H h m'
  | [], _, _, _, _, h => h
  | A :: l, _, m, m', hm, ⟨h1, h2, hd, he, ha, hl⟩ => ⟨h1, h2, hd, he, A.mono _ _ _ hm ha, sepL_mono l h2 m m' hm hl⟩

theorem sepL_append (H F : List Assn) (h m : Hp) :
    sepL (H ++ F) h m ↔ ∃ h1 h2, Hp.dis h1 h2 ∧ h = Hp.un h1 h2 ∧ sepL H h1 m ∧ sepL F h2 m := by
  induction H generalizing h with
  | nil =>
    constructor
    · intro hh; exact ⟨Hp.emp, h, Hp.emp_dis _, (Hp.emp_un h).symm, rfl, hh⟩
    · rintro ⟨h1, h2, _, rfl, rfl, hh⟩; rw [Hp.emp_un]; exact hh
  | cons A l ih =>
    constructor
    · rintro ⟨h1, h2, hd, rfl, ha, hl⟩
      obtain ⟨h3, h4, hd', rfl, hl', hF⟩ := (ih h2).1 hl
      have d13 : Hp.dis h1 h3 := Hp.dis_symm (Hp.dis_of_un_left (Hp.dis_symm hd))
      have d14 : Hp.dis h1 h4 := Hp.dis_symm (Hp.dis_of_un_right hd' (Hp.dis_symm hd))
      exact ⟨Hp.un h1 h3, h4, Hp.dis_un d14 hd', (Hp.un_assoc _ _ _).symm, ⟨h1, h3, d13, rfl, ha, hl'⟩, hF⟩
    · rintro ⟨h1, h2, hd, rfl, ⟨h3, h4, hd', rfl, ha, hl⟩, hF⟩
      have d32 : Hp.dis h3 h2 := Hp.dis_of_un_left hd
      have d42 : Hp.dis h4 h2 := Hp.dis_of_un_right hd' hd
      exact ⟨h3, Hp.un h4 h2, Hp.dis_un_right hd' d32, Hp.un_assoc _ _ _, ha, (ih _).2 ⟨h4, h2, d42, rfl, hl, hF⟩⟩

/-- one block, owned -/
def pt (b : Nat) (o : Obj) : Assn := ⟨fun h _ => h = Hp.one b o, fun _ _ _ _ h => h⟩
/-- one block that is never written any more -/
def ro (b : Nat) (o : Obj) : Assn := ⟨fun h m => h = Hp.emp ∧ m b = some o, fun _ _ _ hm h => ⟨h.1, hm _ _ h.2⟩⟩
/-- all of these blocks are never written any more -/
def roAll (k : Hp) : Assn := ⟨fun h m => h = Hp.emp ∧ Hp.le k m, fun _ _ _ hm h => ⟨h.1, Hp.le_trans h.2 hm⟩⟩
def pureA (p : Prop) : Assn := ⟨fun h _ => h = Hp.emp ∧ p, fun _ _ _ _ h => h⟩
def exA {α : Sort _} (A : α → List Assn) : Assn := ⟨fun h m => ∃ x, sepL (A x) h m, fun h m m' hm ⟨x, hx⟩ => ⟨x, sepL_mono _ h m m' hm hx⟩⟩
def allA (l : List Assn) : Assn := ⟨fun h m => sepL l h m, fun h m m' hm hx => sepL_mono _ h m m' hm hx⟩

def SatH (H : List Assn) (m f : Hp) (w : World) : Prop :=
  ∃ h, sepL H h m ∧ Hp.le h (hpOf w) ∧ Hp.le m (hpOf w) ∧ Hp.le f (hpOf w) ∧ Hp.dis h m ∧ Hp.dis h f ∧ Hp.dis m f

structure Str (w w' : World) : Prop where
  os : w'.os = w.os
  tape : w'.tape = w.tape
  output : w'.output = w.output
theorem Str.refl (w : World) : Str w w := ⟨rfl, rfl, rfl⟩
theorem Str.trans {a b c : World} (h : Str a b) (k : Str b c) : Str a c := ⟨k.os.trans h.os, k.tape.trans h.tape, k.output.trans h.output⟩

abbrev Env := List (Nat × Value)
def Env.get : Env → Nat → Option Value
  | [], _ => none
  | (k, v) :: l, t => bif Nat.beq k t then some v else Env.get l t

structure SatE (n : Nat) (env : Env) (a : Act) : Prop where
  size : a.tmps.size = n
  defers : a.defers = []
  get : ∀ t v, env.get t = some v → a.tmps[t]? = some v

def evS (env : Env) : Operand → Option Value
  | .tmp t => env.get t
  | .const v => some v
  | .global g => some (.pointer (some ⟨g, 0, none⟩))
  | .func f => some (.func (.func f) #[] #[])

theorem evS_sound {n : Nat} {env : Env} {a : Act} {x : Operand} {v : Value} (hs : SatE n env a) (h : evS env x = some v) : a.eval x = v := by
  cases x with
  | tmp t => have := hs.get t v h; simp [Act.eval, this]
  | const u => simp [evS] at h; exact h
  | global g => simp [evS] at h; exact h
  | func f => simp [evS] at h; exact h

def evL (env : Env) : List Operand → Option (List Value)
  | [] => some []
  | x :: l => match evS env x, evL env l with
    | some v, some r => some (v :: r)
    | _, _ => none

theorem evL_sound {n : Nat} {env : Env} {a : Act} (hs : SatE n env a) : ∀ {l : List Operand} {vs : List Value}, evL env l = some vs → l.map a.eval = vs
  | [], vs, h => by simp [evL] at h; simp [h]
  | x :: l, vs, h => by
    simp only [evL] at h
    cases hx : evS env x with
    | none => simp [hx] at h
    | some v =>
      cases hl : evL env l with
      | none => simp [hx, hl] at h
      | some r => simp [hx, hl] at h; subst h; simp [evS_sound hs hx, evL_sound hs hl]

def putE (env : Env) (dst : Option Tmp) (v : Value) : Env :=
  match dst with
  | some d => (d, v) :: env
  | none => env
def dstOk (n : Nat) (dst : Option Tmp) : Bool :=
  match dst with
  | some d => Nat.blt d n
  | none => true

theorem SatE.put {n : Nat} {env : Env} {a : Act} {dst : Option Tmp} (v : Value) (hs : SatE n env a) (hd : dstOk n dst = true) : SatE n (putE env dst v) (a.put dst v) := by
  cases dst with
  | none => exact hs
  | some d =>
    have hlt : d < n := by simpa [dstOk, Nat.blt_eq] using hd
    refine ⟨by simp [Act.put, hs.size], by simp [Act.put, hs.defers], ?_⟩
    intro t u h
    simp only [putE, Env.get] at h
    simp only [Act.put]
    by_cases e : d = t
    · subst e
      have hb : Nat.beq d d = true := Nat.beq_refl d
      simp only [hb, cond_true, Option.some.injEq] at h
      subst h
      simp [hs.size, hlt]
    · have : Nat.beq d t = false := by
        cases hb : Nat.beq d t with
        | false => rfl
        | true => exact absurd (Nat.eq_of_beq_eq_true hb) e
      simp only [this, cond_false] at h
      rw [Array.getElem?_setIfInBounds_ne e]
      exact hs.get t u h

abbrev Post := Exit → Env → List Assn → Prop

def post (Q : Post) (n : Nat) (m f : Hp) (w : World) : Exit → Act → World → Prop := fun e a' w' =>
  ∃ env' H' m', Q e env' H' ∧ SatE n env' a' ∧ SatH H' m' f w' ∧ Hp.le m m' ∧ Str w w'

theorem post_trans {Q : Post} {n : Nat} {m m1 f : Hp} {w w1 : World} (hm : Hp.le m m1) (hw : Str w w1) {e : Exit} {a : Act} {w' : World}
    (h : post Q n m1 f w1 e a w') : post Q n m f w e a w' := by
  obtain ⟨env', H', m', q, se, sh, hm', hs⟩ := h
  exact ⟨env', H', m', q, se, sh, Hp.le_trans hm hm', hw.trans hs⟩

section
variable (P : Program) (n : Nat)

def xW (c : Code) (Q : Post) (env : Env) (H : List Assn) : Prop :=
  ∀ a w m f, SatE n env a → SatH H m f w → c.wp P (post Q n m f w) a w

/-- what an operation comes to, whatever the slots -/
def OpRes (s : Sem Next) (w : World) (V : Value → World → Prop) (C : List PanicEntry → World → Prop) : Prop :=
  match s.run P w with
  | .ok (.value v) w' => V v w'
  | .ok .skip w' => V undef w'
  | .ok (.enter f args) w' => Calls P f args w' fun
      | .returned v, w'' => V v w''
      | .panicked chain, w'' => C chain w''
      | .outgrown, _ => False
  | .ok (.row row args) w' => Rows P row args w' V
  | .halt (.panic v) w' => C [{ v, recovered := false }] w'
  | _ => False

def SOp (o : Oper) (Q : Post) (env : Env) (H : List Assn) (K : Value → List Assn → Prop) : Prop :=
  ∀ a w m f, SatE n env a → SatH H m f w →
    OpRes P (execOp a.eval o) w (fun v w' => ∃ H' m', K v H' ∧ SatH H' m' f w' ∧ Hp.le m m' ∧ Str w w')
      (fun c w' => ∃ H' m', Q (.panic c) [] H' ∧ SatH H' m' f w' ∧ Hp.le m m' ∧ Str w w')

def xL (ops : Array Oper) (l : List Oper) (Q : Post) (env : Env) (H : List Assn) : Prop :=
  ∀ a w m f, SatE n env a → SatH H m f w → wpList P ops (post Q n m f w) l a w

def Does (fn : FuncId) (args : Array Value) (H : List Assn) (R : Ending → List Assn → Prop) : Prop :=
  ∀ w m f, SatH H m f w → Calls P fn args w fun e w' => ∃ H' m', R e H' ∧ SatH H' m' f w' ∧ Hp.le m m' ∧ Str w w'
end

def Ret (R : Value → List Assn → Prop) : Ending → List Assn → Prop
  | .returned v, H => R v H
  | _, _ => False

/-- what may be forgotten, folded, opened -/
def Ent (H H' : List Assn) : Prop := ∀ h m, sepL H h m → ∃ h', Hp.le h' h ∧ sepL H' h' m

theorem Ent.refl (H : List Assn) : Ent H H := fun h _ hs => ⟨h, Hp.le_refl h, hs⟩
theorem Ent.trans {A B C : List Assn} (h : Ent A B) (k : Ent B C) : Ent A C := fun x m hs =>
  let ⟨y, hy, hb⟩ := h x m hs
  let ⟨z, hz, hc⟩ := k y m hb
  ⟨z, Hp.le_trans hz hy, hc⟩

theorem SatH.ent {H H' : List Assn} {m f : Hp} {w : World} (hs : SatH H m f w) (he : Ent H H') : SatH H' m f w := by
  obtain ⟨h, h1, h2, h3, h4, h5, h6, h7⟩ := hs
  obtain ⟨h', hle, hs'⟩ := he h m h1
  exact ⟨h', hs', Hp.le_trans hle h2, h3, h4, Hp.dis_mono h5 hle, Hp.dis_mono h6 hle, h7⟩

theorem SatE.sub {n : Nat} {env env' : Env} {a : Act} (hs : SatE n env a) (h : ∀ t v, env'.get t = some v → env.get t = some v) : SatE n env' a :=
  ⟨hs.size, hs.defers, fun t v e => hs.get t v (h t v e)⟩

section rules
variable {P : Program} {n : Nat} {Q : Post} {env : Env} {H : List Assn}

theorem xW_ent {c : Code} {H' : List Assn} (he : Ent H H') (h : xW P n c Q env H') : xW P n c Q env H :=
  fun a w m f se sh => h a w m f se (sh.ent he)
theorem xL_ent {ops : Array Oper} {l : List Oper} {H' : List Assn} (he : Ent H H') (h : xL P n ops l Q env H') : xL P n ops l Q env H :=
  fun a w m f se sh => h a w m f se (sh.ent he)
theorem xW_env {c : Code} {env' : Env} (he : ∀ t v, env'.get t = some v → env.get t = some v) (h : xW P n c Q env' H) : xW P n c Q env H :=
  fun a w m f se sh => h a w m f (se.sub he) sh
theorem Does.ent {fn : FuncId} {args : Array Value} {R : Ending → List Assn → Prop} {H' : List Assn} (he : Ent H H') (h : Does P fn args H' R) : Does P fn args H R :=
  fun w m f sh => h w m f (sh.ent he)

theorem xW_mono {c : Code} {Q' : Post} (h : xW P n c Q env H) (hq : ∀ e env H, Q e env H → Q' e env H) : xW P n c Q' env H :=
  fun a w m f se sh => wp_mono (h a w m f se sh) fun _ _ _ ⟨env', H', m', q, r⟩ => ⟨env', H', m', hq _ _ _ q, r⟩

def thenS (K : Env → List Assn → Prop) (Q : Post) : Post
  | .normal, env, H => K env H
  | e, env, H => Q e env H
def inBlockS (id : Nat) (Q : Post) : Post
  | .exit id', env, H => if id' = id then Q .normal env H else Q (.exit id') env H
  | e, env, H => Q e env H
def noGotoS (Q : Post) : Post
  | .goto _, _, _ => False
  | e, env, H => Q e env H

theorem xW_seq {x y : Code} (h : xW P n x (thenS (fun env H => xW P n y Q env H) Q) env H) : xW P n (.seq x y) Q env H := by
  intro a w m f se sh
  refine wp_seq (wp_mono (h a w m f se sh) ?_)
  rintro e a' w' ⟨env', H', m', q, se', sh', hm, hw⟩
  cases e with
  | normal => exact wp_mono (q a' w' m' f se' sh') fun e a w hp => post_trans hm hw hp
  | exit id => exact ⟨env', H', m', q, se', sh', hm, hw⟩
  | goto l => exact ⟨env', H', m', q, se', sh', hm, hw⟩
  | ret => exact ⟨env', H', m', q, se', sh', hm, hw⟩
  | panic c => exact ⟨env', H', m', q, se', sh', hm, hw⟩
  | outgrown => exact ⟨env', H', m', q, se', sh', hm, hw⟩

theorem xW_skip (h : Q .normal env H) : xW P n .skip Q env H :=
  fun _ w m _ se sh => wp_skip ⟨env, H, m, h, se, sh, Hp.le_refl m, Str.refl w⟩
theorem xW_ret (h : Q .ret env H) : xW P n .ret Q env H :=
  fun _ w m _ se sh => wp_ret ⟨env, H, m, h, se, sh, Hp.le_refl m, Str.refl w⟩
theorem xW_exit {id : Nat} (h : Q (.exit id) env H) : xW P n (.exit id) Q env H :=
  fun _ w m _ se sh => wp_exit ⟨env, H, m, h, se, sh, Hp.le_refl m, Str.refl w⟩
theorem xW_label {l : Nat} (h : Q .normal env H) : xW P n (.label l) Q env H :=
  fun _ w m _ se sh => wp_label ⟨env, H, m, h, se, sh, Hp.le_refl m, Str.refl w⟩

theorem xW_cond {c : Operand} {x y : Code} {t : Bool} (hc : evS env c = some (.bool t)) (hx : t = true → xW P n x Q env H) (hy : t = false → xW P n y Q env H) :
    xW P n (.cond c x y) Q env H := by
  intro a w m f se sh
  refine wp_cond_split (evS_sound se hc) (fun h => hx h a w m f se sh) (fun h => hy h a w m f se sh)
theorem xW_cond_true {c : Operand} {x y : Code} {t : Bool} (hc : evS env c = some (.bool t)) (ht : t = true) (hx : xW P n x Q env H) : xW P n (.cond c x y) Q env H :=
  xW_cond hc (fun _ => hx) (fun h => by simp [ht] at h)
theorem xW_cond_false {c : Operand} {x y : Code} {t : Bool} (hc : evS env c = some (.bool t)) (ht : t = false) (hy : xW P n y Q env H) : xW P n (.cond c x y) Q env H :=
  xW_cond hc (fun h => by simp [ht] at h) (fun _ => hy)

theorem xW_block {id : Nat} {c : Code} (h : xW P n c (inBlockS id Q) env H) : xW P n (.block id c) Q env H := by
  intro a w m f se sh
  refine wp_block (wp_mono (h a w m f se sh) ?_)
  rintro e a' w' ⟨env', H', m', q, r⟩
  cases e with
  | exit id' =>
    simp only [inBlockS] at q
    simp only [Exit.inBlock]
    split <;> rename_i hid
    · rw [if_pos hid] at q; exact ⟨env', H', m', q, r⟩
    · rw [if_neg hid] at q; exact ⟨env', H', m', q, r⟩
  | normal => exact ⟨env', H', m', q, r⟩
  | goto l => exact ⟨env', H', m', q, r⟩
  | ret => exact ⟨env', H', m', q, r⟩
  | panic c => exact ⟨env', H', m', q, r⟩
  | outgrown => exact ⟨env', H', m', q, r⟩

theorem xW_scope {c : Code} (h : xW P n c (noGotoS Q) env H) : xW P n (.scope c) Q env H := by
  intro a w m f se sh
  refine wp_scope_straight (wp_mono (h a w m f se sh) ?_)
  rintro e a' w' ⟨env', H', m', q, r⟩
  cases e with
  | goto l => exact q.elim
  | exit id => exact ⟨env', H', m', q, r⟩
  | normal => exact ⟨env', H', m', q, r⟩
  | ret => exact ⟨env', H', m', q, r⟩
  | panic c => exact ⟨env', H', m', q, r⟩
  | outgrown => exact ⟨env', H', m', q, r⟩

/-- a loop: its states are told by an index -/
theorem xW_loop {ι : Type} {c : Code} (E : ι → Env) (G : ι → List Assn) (μ : ι → Nat) (i0 : ι)
    (he : ∀ t v, (E i0).get t = some v → env.get t = some v) (hg : Ent H (G i0))
    (round : ∀ i, xW P n c (thenS (fun env' H' => ∃ j, (∀ t v, (E j).get t = some v → env'.get t = some v) ∧ Ent H' (G j) ∧ μ j < μ i) Q) (E i) (G i)) :
    xW P n (.loop c) Q env H := by
  intro a w m f se sh
  have hcl : ∀ p : Prop, Decidable p := fun p => Classical.propDecidable p
  let S : Act → World → ι → Prop := fun a1 w1 i => ∃ m1, SatE n (E i) a1 ∧ SatH (G i) m1 f w1 ∧ Hp.le m m1 ∧ Str w w1
  have hmin : ∀ a1 w1, (∃ i, S a1 w1 i) → ∃ i, S a1 w1 i ∧ ∀ j, S a1 w1 j → μ i ≤ μ j := by
    rintro a1 w1 ⟨i, hi⟩
    generalize hk : μ i = k
    induction k using Nat.strongRecOn generalizing i with
    | _ k ih =>
      by_cases hlt : ∃ j, S a1 w1 j ∧ μ j < k
      · obtain ⟨j, hj, hjk⟩ := hlt
        exact ih (μ j) hjk j hj rfl
      · refine ⟨i, hi, fun j hj => ?_⟩
        rcases Nat.lt_or_ge (μ j) (μ i) with h | h
        · exact absurd ⟨j, hj, hk ▸ h⟩ hlt
        · exact h
  let ν : Act → World → Nat := fun a1 w1 => by
    exact if h : ∃ i, S a1 w1 i then μ (Classical.choose (hmin a1 w1 h)) else 0
  refine wp_loop (fun a1 w1 => ∃ i, S a1 w1 i) ν ⟨i0, m, se.sub he, sh.ent hg, Hp.le_refl m, Str.refl w⟩ ?_
  intro a1 w1 hI
  have hν : ν a1 w1 = μ (Classical.choose (hmin a1 w1 hI)) := dif_pos hI
  obtain ⟨⟨m1, se1, sh1, hm1, hw1⟩, hle⟩ := Classical.choose_spec (hmin a1 w1 hI)
  generalize hi : Classical.choose (hmin a1 w1 hI) = i at *
  refine wp_mono (round i a1 w1 m1 f se1 sh1) ?_
  rintro e a' w' ⟨env', H', m', q, se', sh', hm', hw'⟩
  cases e with
  | normal =>
    obtain ⟨j, hej, hgj, hlt⟩ := q
    have hS : ∃ i, S a' w' i := ⟨j, m', se'.sub hej, sh'.ent hgj, Hp.le_trans hm1 hm', hw1.trans hw'⟩
    refine ⟨hS, ?_⟩
    have hν' : ν a' w' = μ (Classical.choose (hmin a' w' hS)) := dif_pos hS
    rw [hν, hν']
    exact Nat.lt_of_le_of_lt ((Classical.choose_spec (hmin a' w' hS)).2 j ⟨m', se'.sub hej, sh'.ent hgj, Hp.le_trans hm1 hm', hw1.trans hw'⟩) hlt
  | exit id => exact ⟨env', H', m', q, se', sh', Hp.le_trans hm1 hm', hw1.trans hw'⟩
  | goto l => exact ⟨env', H', m', q, se', sh', Hp.le_trans hm1 hm', hw1.trans hw'⟩
  | ret => exact ⟨env', H', m', q, se', sh', Hp.le_trans hm1 hm', hw1.trans hw'⟩
  | panic c => exact ⟨env', H', m', q, se', sh', Hp.le_trans hm1 hm', hw1.trans hw'⟩
  | outgrown => exact ⟨env', H', m', q, se', sh', Hp.le_trans hm1 hm', hw1.trans hw'⟩
end rules
end Go.SL
