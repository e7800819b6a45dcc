/- The rules of regions, of what writes or makes memory, of calls, and of a whole body. -/
import Derived.Test.YtjnbanjmehkifaaSlOps
namespace Go.SL

theorem OpRes.wp {P : Program} {o : Oper} {a : Act} {w : World} {V : Value → World → Prop} {C : List PanicEntry → World → Prop} {K : Act → World → Prop} {Q : Exit → Act → World → Prop}
    (h : OpRes P (execOp a.eval o) w V C) (hK : ∀ v w', V v w' → K (a.put o.dst v) w') (hQ : ∀ c w', C c w' → Q (.panic c) a w') : o.wp P a w K Q := by
  unfold Oper.wp
  unfold OpRes at h
  generalize (execOp a.eval o).run P w = r at *
  cases r with
  | ok x w' =>
    cases x <;> simp only [Oper.upon] at h ⊢ <;> first
      | exact hK _ _ h
      | exact h.elim
      | (refine Calls.mono h fun e w'' he => ?_
         cases e with
         | returned v => exact hK _ _ he
         | panicked c => exact hQ _ _ he
         | outgrown => exact he.elim)
      | exact Rows.mono h fun v w'' he => hK _ _ he
  | halt x w' =>
    cases x <;> simp only [Oper.upon] at h ⊢ <;> first
      | exact hQ _ _ h
      | exact h.elim
theorem OpRes.mono {P : Program} {s : Sem Next} {w : World} {V V' : Value → World → Prop} {C C' : List PanicEntry → World → Prop}
    (h : OpRes P s w V C) (hV : ∀ v w', V v w' → V' v w') (hC : ∀ c w', C c w' → C' c w') : OpRes P s w V' C' := by
  unfold OpRes at *
  generalize s.run P w = r at *
  cases r with
  | ok x w' =>
    cases x <;> simp only at h ⊢ <;> first
      | exact hV _ _ h
      | exact h.elim
      | (refine Calls.mono h fun e w'' he => ?_
         cases e with
         | returned v => exact hV _ _ he
         | panicked c => exact hC _ _ he
         | outgrown => exact he.elim)
      | exact Rows.mono h fun v w'' he => hV _ _ he
  | halt x w' =>
    cases x <;> simp only at h ⊢ <;> first
      | exact hC _ _ h
      | exact h.elim

theorem wpList_mono {P : Program} {ops : Array Oper} {Q Q' : Exit → Act → World → Prop} (hQ : ∀ e a w, Q e a w → Q' e a w) :
    ∀ (l : List Oper) (a : Act) (w : World), wpList P ops Q l a w → wpList P ops Q' l a w
  | [], _, _, h => hQ _ _ _ h
  | o :: rest, a, w, h => by
    unfold wpList at h ⊢
    split <;> rename_i hw
    · rw [if_pos hw] at h
      rcases h with h | ⟨h1, a0, w0, h2⟩
      · refine .inl ?_
        have h' := Oper.wp_mono (wpList_mono hQ rest) h
        unfold Oper.wp at *
        generalize (execOp a.eval o).run P w = r at *
        cases r with
        | ok x w' =>
          cases x <;> simp only [Oper.upon] at h' ⊢ <;> first
            | exact h'
            | (refine Calls.mono h' fun e w'' he => ?_
               cases e with
               | returned v => exact he
               | panicked c => exact hQ _ _ _ he
               | outgrown => obtain ⟨a0, w0, hq⟩ := he; exact ⟨a0, w0, hQ _ _ _ hq⟩)
        | halt x w' =>
          cases x <;> simp only [Oper.upon] at h' ⊢ <;> first
            | exact hQ _ _ _ h'
            | exact h'
      · exact .inr ⟨h1, a0, w0, hQ _ _ _ h2⟩
    · rw [if_neg hw] at h
      exact wpList_mono hQ rest _ _ h

theorem post_panic {Q : Post} {n : Nat} {env : Env} {H' : List Assn} {m m' f : Hp} {w w' : World} {a : Act} {c : List PanicEntry} (se : SatE n env a)
    (hq : Q (.panic c) [] H') (sh : SatH H' m' f w') (hm : Hp.le m m') (hs : Str w w') : post Q n m f w (.panic c) a w' :=
  ⟨[], H', m', hq, se.sub (fun t v h => by simp [Env.get] at h), sh, hm, hs⟩

section
variable {P : Program} {n : Nat} {Q : Post} {env : Env} {H : List Assn} {ops : Array Oper} {rest : List Oper}

theorem xW_region {id : Nat} {l : List Oper} (h : xL P n l.toArray l Q env H) : xW P n (.region id l.toArray false) Q env H :=
  fun a w m f se sh => wp_region_lit (h a w m f se sh)
theorem xL_nil (h : Q .normal env H) : xL P n ops [] Q env H :=
  fun _ w m _ se sh => ⟨env, H, m, h, se, sh, Hp.le_refl m, Str.refl w⟩

theorem xL_op {o : Oper} (hg : o.guard = none) (hd : dstOk n o.dst = true)
    (h : SOp P n o Q env H fun v H' => xL P n ops rest Q (putE env o.dst v) H') : xL P n ops (o :: rest) Q env H := by
  intro a w m f se sh
  unfold wpList
  rw [if_pos (by simp [Region.wanted, hg])]
  refine .inl ((h a w m f se sh).wp ?_ ?_)
  · rintro v w' ⟨H', m', k, sh', hm, hs⟩
    exact wpList_mono (fun _ _ _ hp => post_trans hm hs hp) _ _ _ (k _ _ _ _ (se.put v hd) sh')
  · rintro c w' ⟨H', m', hq, sh', hm, hs⟩
    exact post_panic se hq sh' hm hs

/-- the guard holds: the operation is done -/
theorem xL_guard_yes {o : Oper} {j d : Nat} {want b : Bool} (hg : o.guard = some (j, want)) (hj : (ops[j]?).bind (·.dst) = some d) (hb : env.get d = some (.bool b)) (hbw : b = want)
    (hd : dstOk n o.dst = true) (h : SOp P n o Q env H fun v H' => xL P n ops rest Q (putE env o.dst v) H') : xL P n ops (o :: rest) Q env H := by
  intro a w m f se sh
  unfold wpList
  have hy : yielded ops a.tmps j = some b := by simp [yielded, hj, se.get _ _ hb]
  rw [if_pos (by simp [Region.wanted, hg, hy, hbw])]
  refine .inl ((h a w m f se sh).wp ?_ ?_)
  · rintro v w' ⟨H', m', k, sh', hm, hs⟩
    exact wpList_mono (fun _ _ _ hp => post_trans hm hs hp) _ _ _ (k _ _ _ _ (se.put v hd) sh')
  · rintro c w' ⟨H', m', hq, sh', hm, hs⟩
    exact post_panic se hq sh' hm hs
/-- the guard does not hold: it is passed over -/
theorem xL_guard_no {o : Oper} {j d : Nat} {want b : Bool} (hg : o.guard = some (j, want)) (hj : (ops[j]?).bind (·.dst) = some d) (hb : env.get d = some (.bool b)) (hbw : b = !want)
    (hd : dstOk n o.dst = true) (h : xL P n ops rest Q (putE env o.dst undef) H) : xL P n ops (o :: rest) Q env H := by
  intro a w m f se sh
  unfold wpList
  have hy : yielded ops a.tmps j = some b := by simp [yielded, hj, se.get _ _ hb]
  rw [if_neg (by simp [Region.wanted, hg, hy, hbw])]
  exact h _ _ _ _ (se.put undef hd) sh

section
variable {op : Op} {ty : TypeId} {pos : String} {after : Array Edge}
theorem xL_q {d : Tmp} {v : Value} (hq : Quiet P n ⟨some d, op, ty, pos, after, none⟩ env H v) (hd : Nat.blt d n = true)
    (h : xL P n ops rest Q ((d, v) :: env) H) : xL P n ops (⟨some d, op, ty, pos, after, none⟩ :: rest) Q env H :=
  xL_op rfl hd (sop_quiet hq h)
theorem xL_q0 {v : Value} (hq : Quiet P n ⟨none, op, ty, pos, after, none⟩ env H v)
    (h : xL P n ops rest Q env H) : xL P n ops (⟨none, op, ty, pos, after, none⟩ :: rest) Q env H :=
  xL_op rfl rfl (sop_quiet hq h)
theorem xL_gy {d j e : Tmp} {v : Value} {want b : Bool} (hq : Quiet P n ⟨some d, op, ty, pos, after, some (j, want)⟩ env H v) (hd : Nat.blt d n = true)
    (hj : (ops[j]?).bind (·.dst) = some e) (hb : env.get e = some (.bool b)) (hbw : b = want)
    (h : xL P n ops rest Q ((d, v) :: env) H) : xL P n ops (⟨some d, op, ty, pos, after, some (j, want)⟩ :: rest) Q env H :=
  xL_guard_yes rfl hj hb hbw hd (sop_quiet hq h)
theorem xL_gn {d j e : Tmp} {want b : Bool} (hd : Nat.blt d n = true)
    (hj : (ops[j]?).bind (·.dst) = some e) (hb : env.get e = some (.bool b)) (hbw : b = !want)
    (h : xL P n ops rest Q ((d, undef) :: env) H) : xL P n ops (⟨some d, op, ty, pos, after, some (j, want)⟩ :: rest) Q env H :=
  xL_guard_no rfl hj hb hbw hd h
end

section
variable {op : Op} {ty : TypeId} {pos : String} {after : Array Edge} {d j e : Tmp} {v : Value} {b : Bool}
theorem xL_gyt (hj : (ops[j]?).bind (·.dst) = some e) (hb : env.get e = some (.bool b)) (hbw : b = true) (hq : Quiet P n ⟨some d, op, ty, pos, after, some (j, true)⟩ env H v) (hd : Nat.blt d n = true)
    (h : xL P n ops rest Q ((d, v) :: env) H) : xL P n ops (⟨some d, op, ty, pos, after, some (j, true)⟩ :: rest) Q env H := xL_gy hq hd hj hb hbw h
theorem xL_gyf (hj : (ops[j]?).bind (·.dst) = some e) (hb : env.get e = some (.bool b)) (hbw : b = false) (hq : Quiet P n ⟨some d, op, ty, pos, after, some (j, false)⟩ env H v) (hd : Nat.blt d n = true)
    (h : xL P n ops rest Q ((d, v) :: env) H) : xL P n ops (⟨some d, op, ty, pos, after, some (j, false)⟩ :: rest) Q env H := xL_gy hq hd hj hb hbw h
theorem xL_gnt (hj : (ops[j]?).bind (·.dst) = some e) (hb : env.get e = some (.bool b)) (hbw : b = false) (hd : Nat.blt d n = true)
    (h : xL P n ops rest Q ((d, undef) :: env) H) : xL P n ops (⟨some d, op, ty, pos, after, some (j, true)⟩ :: rest) Q env H := xL_gn hd hj hb (by simp [hbw]) h
theorem xL_gnf (hj : (ops[j]?).bind (·.dst) = some e) (hb : env.get e = some (.bool b)) (hbw : b = true) (hd : Nat.blt d n = true)
    (h : xL P n ops rest Q ((d, undef) :: env) H) : xL P n ops (⟨some d, op, ty, pos, after, some (j, false)⟩ :: rest) Q env H := xL_gn hd hj hb (by simp [hbw]) h
theorem xL_split {w : Bool} {dd : Option Tmp} (hj : (ops[j]?).bind (·.dst) = some e) (hb : env.get e = some (.bool b)) (h1 : b = true → xL P n ops (⟨dd, op, ty, pos, after, some (j, w)⟩ :: rest) Q env H)
    (h2 : b = false → xL P n ops (⟨dd, op, ty, pos, after, some (j, w)⟩ :: rest) Q env H) : xL P n ops (⟨dd, op, ty, pos, after, some (j, w)⟩ :: rest) Q env H := by
  cases b
  · exact h2 rfl
  · exact h1 rfl
end

/-- an operation that makes or writes memory, with its outcome -/
def Eff (P : Program) (n : Nat) (o : Oper) (env : Env) (H : List Assn) (v : Value) (H' : List Assn) : Prop :=
  ∀ a w m f, SatE n env a → SatH H m f w → ∃ r w' m', (execOp a.eval o).run P w = .ok r w' ∧ (r = .value v ∨ r = .skip ∧ v = undef) ∧ SatH H' m' f w' ∧ Hp.le m m' ∧ Str w w'
/-- the same, where a new block is made, b its number -/
def New (P : Program) (n : Nat) (o : Oper) (env : Env) (H : List Assn) (v : Nat → Value) (H' : Nat → List Assn) : Prop :=
  ∀ a w m f, SatE n env a → SatH H m f w → ∃ b w' m', (execOp a.eval o).run P w = .ok (.value (v b)) w' ∧ SatH (H' b) m' f w' ∧ Hp.le m m' ∧ Str w w'

theorem sop_eff {o : Oper} {v : Value} {H' : List Assn} {K : Value → List Assn → Prop} (he : Eff P n o env H v H') (hk : K v H') : SOp P n o Q env H K := by
  intro a w m f se sh
  obtain ⟨r, w', m', hr, hv, sh', hm, hs⟩ := he a w m f se sh
  unfold OpRes
  rw [hr]
  rcases hv with rfl | ⟨rfl, rfl⟩
  · exact ⟨H', m', hk, sh', hm, hs⟩
  · exact ⟨H', m', hk, sh', hm, hs⟩
theorem sop_new {o : Oper} {v : Nat → Value} {H' : Nat → List Assn} {K : Value → List Assn → Prop} (he : New P n o env H v H') (hk : ∀ b, K (v b) (H' b)) : SOp P n o Q env H K := by
  intro a w m f se sh
  obtain ⟨b, w', m', hr, sh', hm, hs⟩ := he a w m f se sh
  unfold OpRes
  rw [hr]
  exact ⟨H' b, m', hk b, sh', hm, hs⟩
section
variable {op : Op} {ty : TypeId} {pos : String} {after : Array Edge}
theorem xL_e {d : Tmp} {v : Value} {H' : List Assn} (he : Eff P n ⟨some d, op, ty, pos, after, none⟩ env H v H') (hd : Nat.blt d n = true)
    (h : xL P n ops rest Q ((d, v) :: env) H') : xL P n ops (⟨some d, op, ty, pos, after, none⟩ :: rest) Q env H := xL_op rfl hd (sop_eff he h)
theorem xL_e0 {v : Value} {H' : List Assn} (he : Eff P n ⟨none, op, ty, pos, after, none⟩ env H v H')
    (h : xL P n ops rest Q env H') : xL P n ops (⟨none, op, ty, pos, after, none⟩ :: rest) Q env H := xL_op rfl rfl (sop_eff he h)
theorem xL_n {d : Tmp} {v : Nat → Value} {H' : Nat → List Assn} (he : New P n ⟨some d, op, ty, pos, after, none⟩ env H v H') (hd : Nat.blt d n = true)
    (h : ∀ b, xL P n ops rest Q ((d, v b) :: env) (H' b)) : xL P n ops (⟨some d, op, ty, pos, after, none⟩ :: rest) Q env H := xL_op rfl hd (sop_new he h)
end
end

/-! writing -/
def Wr (H : List Assn) (b : Nat) (o' : Obj) (H' : List Assn) : Prop :=
  ∀ h m, sepL H h m → (∃ o, h b = some o) ∧ sepL H' (fun x => if x = b then some o' else h x) m
class WrC (H : List Assn) (b : Nat) (o' : Obj) (H' : outParam (List Assn)) : Prop where
  get : Wr H b o' H'

theorem Wr.head {H : List Assn} {b : Nat} {o o' : Obj} : Wr (pt b o :: H) b o' (pt b o' :: H) := by
  rintro h m ⟨h1, h2, hd, rfl, rfl, hl⟩
  refine ⟨⟨o, by simp [Hp.un, Hp.one]⟩, Hp.one b o', h2, ?_, ?_, rfl, hl⟩
  · intro x y e
    simp only [Hp.one] at e
    split at e
    · rename_i hx; subst hx; exact hd x o (by simp [Hp.one])
    · cases e
  · funext x
    by_cases hx : x = b
    · subst hx; simp [Hp.un, Hp.one]
    · simp [Hp.un, Hp.one, hx]
theorem Wr.tail {H H' : List Assn} {A : Assn} {b : Nat} {o' : Obj} (hw : Wr H b o' H') : Wr (A :: H) b o' (A :: H') := by
  rintro h m ⟨h1, h2, hd, rfl, ha, hl⟩
  obtain ⟨⟨o, ho⟩, hl'⟩ := hw h2 m hl
  have hb1 : h1 b = none := Hp.dis_symm hd b o ho
  refine ⟨⟨o, Hp.le_un_right hd _ _ ho⟩, h1, _, ?_, ?_, ha, hl'⟩
  · intro x y e
    by_cases hx : x = b
    · subst hx; rw [hb1] at e; cases e
    · simp [hx, hd x y e]
  · funext x
    by_cases hx : x = b
    · subst hx; simp [Hp.un, hb1]
    · simp [Hp.un, hx]
instance (priority := 1100) WrC.head {H : List Assn} {b : Nat} {o o' : Obj} : WrC (pt b o :: H) b o' (pt b o' :: H) := ⟨Wr.head⟩
instance (priority := 900) WrC.tail {H H' : List Assn} {A : Assn} {b : Nat} {o' : Obj} [h : WrC H b o' H'] : WrC (A :: H) b o' (A :: H') := ⟨h.get.tail⟩

theorem SatH.upd {H H' : List Assn} {m f : Hp} {w w' : World} {b : Nat} {o' : Obj} (sh : SatH H m f w) (hw : Wr H b o' H')
    (hh : ∀ x, w'.heap[x]? = if x = b then some o' else w.heap[x]?) : SatH H' m f w' := by
  obtain ⟨h, h1, h2, h3, h4, h5, h6, h7⟩ := sh
  obtain ⟨⟨o, ho⟩, hs⟩ := hw h m h1
  refine ⟨_, hs, ?_, ?_, ?_, ?_, ?_, h7⟩
  · intro x y e
    simp only [hpOf, hh]
    by_cases hx : x = b
    · subst hx; simpa using e
    · simp only [hx, if_false] at e ⊢; exact h2 x y e
  · intro x y e
    have hx : x ≠ b := by rintro rfl; have := h5 x o ho; simp [this] at e
    simp only [hpOf, hh, hx, if_false]; exact h3 x y e
  · intro x y e
    have hx : x ≠ b := by rintro rfl; have := h6 x o ho; simp [this] at e
    simp only [hpOf, hh, hx, if_false]; exact h4 x y e
  · intro x y e
    by_cases hx : x = b
    · subst hx; exact h5 x o ho
    · simp only [hx, if_false] at e; exact h5 x y e
  · intro x y e
    by_cases hx : x = b
    · subst hx; exact h6 x o ho
    · simp only [hx, if_false] at e; exact h6 x y e

theorem SatH.same {H : List Assn} {m f : Hp} {w w' : World} (sh : SatH H m f w) (hh : w'.heap = w.heap) : SatH H m f w' := by
  obtain ⟨h, h1, h2, h3, h4, h5⟩ := sh
  refine ⟨h, h1, ?_, ?_, ?_, h5⟩ <;> (intro x y e; simp only [hpOf, hh])
  · exact h2 x y e
  · exact h3 x y e
  · exact h4 x y e

theorem SatH.new {H : List Assn} {m f : Hp} {w w' : World} {o : Obj} (sh : SatH H m f w) (hh : w'.heap = w.heap.push o) : SatH (pt w.heap.size o :: H) m f w' := by
  obtain ⟨h, h1, h2, h3, h4, h5, h6, h7⟩ := sh
  have hn : ∀ k : Hp, Hp.le k (hpOf w) → k w.heap.size = none := by
    intro k hk
    cases e : k w.heap.size with
    | none => rfl
    | some y => have := hk _ _ e; simp [hpOf] at this
  have hle : ∀ k : Hp, Hp.le k (hpOf w) → Hp.le k (hpOf w') := by
    intro k hk x y e
    have := hk x y e
    simp only [hpOf, hh] at this ⊢
    rw [Array.getElem?_push]
    split
    · subst_vars; simp at this
    · exact this
  have hd : ∀ k : Hp, Hp.le k (hpOf w) → Hp.dis (Hp.one w.heap.size o) k := by
    intro k hk x y e
    simp only [Hp.one] at e
    split at e
    · subst_vars; exact hn k hk
    · cases e
  refine ⟨Hp.un (Hp.one w.heap.size o) h, ⟨_, h, hd h h2, rfl, rfl, h1⟩, ?_, hle m h3, hle f h4, Hp.dis_un (hd m h3) h5, Hp.dis_un (hd f h4) h6, h7⟩
  refine Hp.un_le ?_ (hle h h2)
  intro x y e
  simp only [Hp.one] at e
  split at e
  · subst_vars; simp only [hpOf, hh]; simpa using e
  · cases e

/-- a block is given up for good: it is never written any more -/
theorem SatH.freeze {H : List Assn} {m f : Hp} {w : World} {b : Nat} {o : Obj} (sh : SatH (pt b o :: H) m f w) : ∃ m', SatH (ro b o :: H) m' f w ∧ Hp.le m m' := by
  obtain ⟨h, ⟨h1, h2, hd, rfl, rfl, hl⟩, h3, h4, h5, h6, h7, h8⟩ := sh
  have h61 := Hp.dis_of_un_left h6
  have h62 := Hp.dis_of_un_right hd h6
  refine ⟨Hp.un (Hp.one b o) m, ⟨h2, ⟨Hp.emp, h2, Hp.emp_dis _, (Hp.emp_un _).symm, ⟨rfl, by simp [Hp.un, Hp.one]⟩, sepL_mono _ _ _ _ (Hp.le_un_right h61) hl⟩, ?_, ?_, h5, ?_, Hp.dis_of_un_right hd h7, ?_⟩, Hp.le_un_right h61⟩
  · exact Hp.le_trans (Hp.le_un_right hd) h3
  · exact Hp.un_le (Hp.le_trans (Hp.le_un_left _ _) h3) h4
  · exact Hp.dis_un_right (Hp.dis_symm hd) h62
  · exact Hp.dis_un (Hp.dis_of_un_left h7) h8

section
variable {P : Program} {n : Nat} {Q : Post} {env : Env} {H : List Assn} {dst : Option Tmp} {ty : TypeId} {pos : String} {after : Array Edge} {g : Option (Nat × Bool)}

theorem heap_setCell (w : World) (b o : Nat) (v : Value) (c : Array Value) (e : TypeId) (fr : Nat × Nat) (hb : w.heap[b]? = some (.cells c e fr)) (x : Nat) :
    (w.setCell ⟨b, o, none⟩ v).heap[x]? = if x = b then some (.cells (c.setIfInBounds o v) e fr) else w.heap[x]? := by
  simp only [World.setCell, Array.getElem?_modify]
  by_cases hx : x = b
  · subst hx; simp [hb]
  · rw [if_neg (Ne.symm hx), if_neg hx]

theorem run_store_at {b o : Nat} {c : Array Value} {e : TypeId} {v : Value} {w : World} (hb : w.heap[b]? = some (.cells c e (0, 0))) (hlt : o < c.size) (hv : v.oneCell' = true) (m : Mode) :
    (store ⟨b, o, none⟩ v m).run P w = .ok () (w.setCell ⟨b, o, none⟩ v) := by
  rw [run_store P w _ v m hv]
  have h1 : w.cell? ⟨b, o, none⟩ = some c[o] := by simp [World.cell?, hb, hlt]
  have h2 : w.frozen? ⟨b, o, none⟩ = false := by simp [World.frozen?, hb]
  rw [h1, h2]; rfl

theorem cells_one {v : Value} (hv : v.oneCell' = true) : v.cells = #[v] := by
  cases v <;> first | rfl | (simp [Value.oneCell'] at hv)

theorem e_store {t : TypeId} {x y : Operand} {b o bytes : Nat} {agg : Bool} {zero v : Value} {c c' : Array Value} {e : TypeId} {H' : List Assn} [hT : TyC P t agg 1 bytes zero]
    [hr : RdC H b (.cells c e (0, 0))] [hv : SetA c o v c'] [hw : WrC H b (.cells c' e (0, 0)) H']
    (hx : evS env x = some (.pointer (some ⟨b, o, none⟩))) (hy : evS env y = some v) (h1 : v.oneCell' = true) :
    Eff P n ⟨dst, .store t x y, ty, pos, after, g⟩ env H undef H' := by
  intro a w m f se sh
  have hb := sh.rd hr.get
  refine ⟨.skip, w.setCell ⟨b, o, none⟩ v, m, ?_, .inr ⟨rfl, rfl⟩, sh.upd hw.get ?_, Hp.le_refl m, ⟨rfl, rfl, rfl⟩⟩
  · simp only [execOp, evS_sound se hx, evS_sound se hy, Instr.storeAt, Instr.sureAddr, storeVar, Sem.run_bind, Sem.run_pure, Result.andThen_ok, run_xsizeOf (h := hT), cells_one h1]
    simp only [List.size_toArray, List.length_cons, List.length_nil, storeCells, Sem.run_ite, Sem.run_bind, Sem.run_pure, add_none, Nat.add_zero, run_store_at (P := P) hb hv.lt h1]
    simp
  · intro x
    rw [heap_setCell w b o v c e (0, 0) hb x, hv.eq]
theorem e_store' {t : TypeId} {x y : Operand} {b o bytes : Nat} {agg : Bool} {zero v : Value} {c : Array Value} {e : TypeId} {H' : List Assn} [hT : TyC P t agg 1 bytes zero]
    [hr : RdC H b (.cells c e (0, 0))] [hw : WrC H b (.cells (c.setIfInBounds o v) e (0, 0)) H']
    (hx : evS env x = some (.pointer (some ⟨b, o, none⟩))) (hy : evS env y = some v) (h1 : v.oneCell' = true) (ho : o < c.size) :
    Eff P n ⟨dst, .store t x y, ty, pos, after, g⟩ env H undef H' :=
  haveI : SetA c o v (c.setIfInBounds o v) := ⟨ho, rfl⟩
  e_store (c := c) hx hy h1

/-- cells written one behind the other -/
def putAt (c : Array Value) (o : Nat) : List Value → Array Value
  | [] => c
  | v :: l => putAt (c.setIfInBounds o v) (o + 1) l
theorem putAt_size : ∀ (l : List Value) (c : Array Value) (o : Nat), (putAt c o l).size = c.size
  | [], _, _ => rfl
  | v :: l, c, o => by rw [putAt, putAt_size l]; simp
theorem run_storeCells {b o : Nat} {e : TypeId} : ∀ (l : List Value) (i : Nat) (c : Array Value) (w : World), w.heap[b]? = some (.cells c e (0, 0)) → o + i + l.length ≤ c.size → (∀ v ∈ l, v.oneCell' = true) →
    ∃ w', (storeCells ⟨b, o, none⟩ l i).run P w = .ok () w' ∧ Str w w' ∧ ∀ x, w'.heap[x]? = if x = b then some (.cells (putAt c (o + i) l) e (0, 0)) else w.heap[x]?
  | [], i, c, w, hb, _, _ => ⟨w, rfl, Str.refl w, fun x => by by_cases hx : x = b <;> simp [hx, hb, putAt]⟩
  | v :: l, i, c, w, hb, hl, h1 => by
    simp only [List.length_cons] at hl
    have hb' := heap_setCell w b (o + i) v c e (0, 0) hb
    obtain ⟨w', hr, hs, hh⟩ := run_storeCells (b := b) (o := o) (e := e) l (i + 1) (c.setIfInBounds (o + i) v) (w.setCell ⟨b, o + i, none⟩ v) (by rw [hb' b, if_pos rfl]) (by simp; omega) (fun u hu => h1 u (List.mem_cons_of_mem _ hu))
    refine ⟨w', ?_, (show Str w (w.setCell ⟨b, o + i, none⟩ v) from ⟨rfl, rfl, rfl⟩).trans hs, ?_⟩
    · simp only [storeCells, Sem.run_bind, add_none, run_store_at (P := P) hb (show o + i < c.size by omega) (h1 v (List.mem_cons_self ..)), Result.andThen_ok, hr]
    · intro x
      rw [hh x, hb' x]
      by_cases hx : x = b <;> simp [hx, putAt, Nat.add_assoc]
/-- storing an aggregate -/
theorem e_store_agg {t : TypeId} {x y : Operand} {b o size bytes : Nat} {zero : Value} {c d : Array Value} {e : TypeId} {H' : List Assn} [hT : TyC P t true size bytes zero]
    [hr : RdC H b (.cells c e (0, 0))] [hw : WrC H b (.cells (putAt c o d.toList) e (0, 0)) H']
    (hx : evS env x = some (.pointer (some ⟨b, o, none⟩))) (hy : evS env y = some (.agg d)) (hsz : d.size = size) (h1 : ∀ v ∈ d.toList, v.oneCell' = true) (ho : o + size ≤ c.size) :
    Eff P n ⟨dst, .store t x y, ty, pos, after, g⟩ env H undef H' := by
  intro a w m f se sh
  have hb := sh.rd hr.get
  obtain ⟨w', hrun, hs, hh⟩ := run_storeCells (P := P) (b := b) (o := o) (e := e) d.toList 0 c w hb (by simp; omega) h1
  refine ⟨.skip, w', m, ?_, .inr ⟨rfl, rfl⟩, sh.upd hw.get hh, Hp.le_refl m, hs⟩
  simp only [execOp, evS_sound se hx, evS_sound se hy, Instr.storeAt, Instr.sureAddr, storeVar, Sem.run_bind, Sem.run_pure, Result.andThen_ok, run_xsizeOf (h := hT), Value.cells, hsz]
  simp [hrun]

theorem n_alloc {t : TypeId} {agg : Bool} {size bytes : Nat} {zero : Value} [hT : TyC P t agg size bytes zero] :
    New P n ⟨dst, .alloc t, ty, pos, after, g⟩ env H (fun b => .pointer (some ⟨b, 0, none⟩)) (fun b => pt b (.cells zero.cells t (0, 0)) :: H) := by
  intro a w m f se sh
  refine ⟨w.heap.size, { w with heap := w.heap.push (.cells zero.cells t (0, 0)) }, m, ?_, sh.new rfl, Hp.le_refl m, ⟨rfl, rfl, rfl⟩⟩
  simp [execOp, Instr.alloc, newVar, newRow, run_zeroValue (h := hT)]
theorem n_box {t : TypeId} {x : Operand} {v : Value} (hx : evS env x = some v) :
    New P n ⟨dst, .box t x, ty, pos, after, g⟩ env H (fun b => .pointer (some ⟨b, 0, none⟩)) (fun b => pt b (.cells v.cells t (0, 0)) :: H) := by
  intro a w m f se sh
  refine ⟨w.heap.size, { w with heap := w.heap.push (.cells v.cells t (0, 0)) }, m, ?_, sh.new rfl, Hp.le_refl m, ⟨rfl, rfl, rfl⟩⟩
  simp [execOp, Instr.box, newVar, newRow, evS_sound se hx]
theorem n_box_agg {t : TypeId} {x : Operand} {c : Array Value} (hx : evS env x = some (.agg c)) :
    New P n ⟨dst, .box t x, ty, pos, after, g⟩ env H (fun b => .pointer (some ⟨b, 0, none⟩)) (fun b => pt b (.cells c t (0, 0)) :: H) := by
  have := n_box (P := P) (n := n) (H := H) (dst := dst) (ty := ty) (pos := pos) (after := after) (g := g) (t := t) hx
  exact this
theorem n_alloc_agg {t : TypeId} {size bytes : Nat} {c : Array Value} [hT : TyC P t true size bytes (.agg c)] :
    New P n ⟨dst, .alloc t, ty, pos, after, g⟩ env H (fun b => .pointer (some ⟨b, 0, none⟩)) (fun b => pt b (.cells c t (0, 0)) :: H) := by
  have := n_alloc (P := P) (n := n) (env := env) (H := H) (dst := dst) (ty := ty) (pos := pos) (after := after) (g := g) (t := t) (hT := hT)
  exact this
theorem n_makeMap {t : TypeId} : New P n ⟨dst, .makeMap t none, ty, pos, after, g⟩ env H (fun b => .map (some b)) (fun b => pt b (.map #[] 0) :: H) := by
  intro a w m f se sh
  refine ⟨w.heap.size, { w with heap := w.heap.push (.map #[] 0) }, m, ?_, sh.new rfl, Hp.le_refl m, ⟨rfl, rfl, rfl⟩⟩
  simp [execOp, Instr.makeMap]
end

/-! a whole body; a call -/
def argEnv : List Value → Nat → Env
  | [], _ => []
  | v :: l, i => (i, v) :: argEnv l (i + 1)

def resL (env : Env) : List ResultVar → Option (List Value)
  | [] => some []
  | .tmp t :: l => match env.get t, resL env l with
    | some v, some r => some (v :: r)
    | _, _ => none
  | .cell .. :: _ => none
def oneOr : List Value → Value
  | [v] => v
  | l => .tuple l.toArray
def resE (env : Env) (l : List ResultVar) : Option Value := (resL env l).map oneOr

def endS (l : List ResultVar) (R : Ending → List Assn → Prop) : Post
  | .normal, env, H => ∃ v H', resE env l = some v ∧ Ent H H' ∧ R (.returned v) H'
  | .ret, env, H => ∃ v H', resE env l = some v ∧ Ent H H' ∧ R (.returned v) H'
  | .panic c, _, H => ∃ H', Ent H H' ∧ R (.panicked c) H'
  | _, _, _ => False

theorem endS_ret {rs : List ResultVar} {R : Ending → List Assn → Prop} {env : Env} {H L F : List Assn} {v : Value} (hv : resE env rs = some v) (hR : R (.returned v) L) (ht : ∀ h m, sepL H h m → sepL (L ++ F) h m) : endS rs R .ret env H :=
  ⟨v, L, hv, fun x m hs => by
    obtain ⟨y, z, _, rfl, hl, _⟩ := (sepL_append _ _ _ _).1 (ht x m hs)
    exact ⟨y, Hp.le_un_left _ _, hl⟩, hR⟩
theorem endS_normal {rs : List ResultVar} {R : Ending → List Assn → Prop} {env : Env} {H L F : List Assn} {v : Value} (hv : resE env rs = some v) (hR : R (.returned v) L) (ht : ∀ h m, sepL H h m → sepL (L ++ F) h m) : endS rs R .normal env H :=
  endS_ret hv hR ht

theorem endS_same {rs : List ResultVar} {R : Ending → List Assn → Prop} {env : Env} {H : List Assn} {v : Value} (hv : resE env rs = some v) (hR : R (.returned v) H) : endS rs R .ret env H :=
  ⟨v, H, hv, Ent.refl H, hR⟩
theorem endS_same' {rs : List ResultVar} {R : Ending → List Assn → Prop} {env : Env} {H : List Assn} {v : Value} (hv : resE env rs = some v) (hR : R (.returned v) H) : endS rs R .normal env H :=
  ⟨v, H, hv, Ent.refl H, hR⟩

theorem argEnv_get : ∀ (l : List Value) (i t : Nat) (v : Value), (argEnv l i).get t = some v → i ≤ t ∧ l[t - i]? = some v
  | [], _, _, _, h => by simp [argEnv, Env.get] at h
  | u :: l, i, t, v, h => by
    simp only [argEnv, Env.get] at h
    cases hb : Nat.beq i t with
    | true =>
      have := Nat.eq_of_beq_eq_true hb
      subst this
      simpa [hb] using h
    | false =>
      simp only [hb, cond_false] at h
      obtain ⟨h1, h2⟩ := argEnv_get l (i + 1) t v h
      refine ⟨by omega, ?_⟩
      rw [show t - i = (t - (i + 1)) + 1 by omega, List.getElem?_cons_succ]
      exact h2

theorem resL_sound {n : Nat} {env : Env} {a : Act} {P : Program} {w : World} {φ : ResultVar → Sem Value} (se : SatE n env a) (hφ : ∀ t, φ (.tmp t) = pure (a.tmps.getD t undef)) :
    ∀ (l : List ResultVar) (vs : List Value), resL env l = some vs → (l.mapM φ).run P w = .ok vs w
  | [], vs, h => by simp [resL] at h; subst h; simp
  | .cell .. :: _, _, h => by simp [resL] at h
  | .tmp t :: l, vs, h => by
    simp only [resL] at h
    cases hx : env.get t with
    | none => simp [hx] at h
    | some v =>
      cases hl : resL env l with
      | none => simp [hx, hl] at h
      | some r =>
        simp [hx, hl] at h
        subst h
        have ih := resL_sound (P := P) (w := w) se hφ l r hl
        simp only [List.mapM_cons, Sem.run_bind, hφ, Sem.run_pure, Result.andThen_ok, ih]
        simp [se.get _ _ hx]

theorem results_sound {n : Nat} {env : Env} {a : Act} {P : Program} {w : World} {fn : Func} {v : Value} (se : SatE n env a) (h : resE env fn.results.toList = some v) :
    (results fn a.tmps).run P w = .ok v w := by
  unfold resE at h
  cases hl : resL env fn.results.toList with
  | none => simp [hl] at h
  | some vs =>
    simp only [hl, Option.map_some, Option.some.injEq] at h
    unfold results
    rw [Array.mapM_eq_mapM_toList]
    simp only [Sem.run_bind, Sem.run_map, Sem.run_pure]
    rw [resL_sound (P := P) (w := w) se (fun t => rfl) _ _ hl]
    subst h
    match vs with
    | [] => rfl
    | [v] => rfl
    | _ :: _ :: _ => rfl

section
variable {P : Program}
theorem spec_of {f : FuncId} {fn : Func} {c : Code} {args : List Value} {H : List Assn} {R : Ending → List Assn → Prop} {n : Nat} {rs : List ResultVar}
    (hf : P.funcs[f]? = some fn) (hb : fn.body = some c) (hn : fn.ntmps = n) (hr : fn.results.toList = rs) (hl : args.length ≤ n)
    (h : xW P n c (endS rs R) (argEnv args 0) H) : Does P f args.toArray H R := by
  intro w m fr sh
  refine calls_of_wp hf hb (wp_mono (h _ w m fr ?_ sh) ?_)
  · refine ⟨?_, rfl, ?_⟩
    · simp [hn]; omega
    · intro t v ht
      obtain ⟨_, h2⟩ := argEnv_get _ _ _ _ ht
      simp only [Nat.sub_zero] at h2
      have hlt := (List.getElem?_eq_some_iff.1 h2).1
      rw [Array.getElem?_append_left (by simpa using hlt)]
      simpa using h2
  · rintro e a' w' ⟨env', H', m', q, se', sh', hm, hs⟩
    subst hr
    cases e with
    | normal =>
      obtain ⟨v, H2, hv, he, hR⟩ := q
      exact ⟨se'.defers, v, results_sound se' hv, H2, m', hR, sh'.ent he, hm, hs⟩
    | ret =>
      obtain ⟨v, H2, hv, he, hR⟩ := q
      exact ⟨se'.defers, v, results_sound se' hv, H2, m', hR, sh'.ent he, hm, hs⟩
    | panic c =>
      obtain ⟨H2, he, hR⟩ := q
      exact ⟨se'.defers, H2, m', hR, sh'.ent he, hm, hs⟩
    | exit id => exact q.elim
    | goto l => exact q.elim
    | outgrown => exact q.elim

/-- the frame rule -/
theorem Does.frame {f : FuncId} {args : Array Value} {H : List Assn} {R : Ending → List Assn → Prop} (F : List Assn) (h : Does P f args H R) :
    Does P f args (H ++ F) fun e H' => ∃ H0, H' = H0 ++ F ∧ R e H0 := by
  intro w m fr ⟨x, h1, h2, h3, h4, h5, h6, h7⟩
  obtain ⟨x1, x2, hd, rfl, hs1, hs2⟩ := (sepL_append H F x m).1 h1
  have h51 := Hp.dis_of_un_left h5
  have h52 := Hp.dis_of_un_right hd h5
  have h61 := Hp.dis_of_un_left h6
  have h62 := Hp.dis_of_un_right hd h6
  refine Calls.mono (h w m (Hp.un x2 fr) ⟨x1, hs1, Hp.le_trans (Hp.le_un_left _ _) h2, h3, Hp.un_le (Hp.le_trans (Hp.le_un_right hd) h2) h4, h51, Hp.dis_un_right hd h61, Hp.dis_un_right (Hp.dis_symm h52) h7⟩) ?_
  rintro e w' ⟨H0, m', hR, ⟨y, k1, k2, k3, k4, k5, k6, k7⟩, hm, hs⟩
  have k61 : Hp.dis y x2 := Hp.dis_symm (Hp.dis_of_un_left (Hp.dis_symm k6))
  have k62 : Hp.dis y fr := Hp.dis_symm (Hp.dis_of_un_right h62 (Hp.dis_symm k6))
  have k71 : Hp.dis m' x2 := Hp.dis_symm (Hp.dis_of_un_left (Hp.dis_symm k7))
  have k72 : Hp.dis m' fr := Hp.dis_symm (Hp.dis_of_un_right h62 (Hp.dis_symm k7))
  refine ⟨H0 ++ F, m', ⟨H0, rfl, hR⟩, ⟨Hp.un y x2, (sepL_append _ _ _ _).2 ⟨y, x2, k61, rfl, k1, sepL_mono _ _ _ _ hm hs2⟩, ?_, k3, ?_, ?_, ?_, k72⟩, hm, hs⟩
  · exact Hp.un_le k2 (Hp.le_trans (Hp.le_un_left _ _) k4)
  · exact Hp.le_trans (Hp.le_un_right h62) k4
  · exact Hp.dis_un k5 (Hp.dis_symm k71)
  · exact Hp.dis_un k62 h62

/-- taking assertions out of the list, in whatever order -/
def Take (H L F : List Assn) : Prop := ∀ h m, sepL H h m → sepL (L ++ F) h m
class TakeC (H L : List Assn) (F : outParam (List Assn)) : Prop where
  get : Take H L F
class PickC (H : List Assn) (A : Assn) (F : outParam (List Assn)) : Prop where
  get : ∀ h m, sepL H h m → sepL (A :: F) h m
instance (priority := 1100) PickC.head {H : List Assn} {A : Assn} : PickC (A :: H) A H := ⟨fun _ _ h => h⟩
theorem sepL_swap {A B : Assn} {F : List Assn} {h m : Hp} (hs : sepL (B :: A :: F) h m) : sepL (A :: B :: F) h m := by
  obtain ⟨h1, h2, hd, rfl, hb, h3, h4, hd', rfl, ha, hl⟩ := hs
  have d13 : Hp.dis h1 h3 := Hp.dis_symm (Hp.dis_of_un_left (Hp.dis_symm hd))
  have d14 : Hp.dis h1 h4 := Hp.dis_symm (Hp.dis_of_un_right hd' (Hp.dis_symm hd))
  refine ⟨h3, Hp.un h1 h4, Hp.dis_un_right (Hp.dis_symm d13) hd', ?_, ha, h1, h4, d14, rfl, hb, hl⟩
  rw [← Hp.un_assoc, ← Hp.un_assoc, Hp.un_comm d13]
instance (priority := 900) PickC.tail {H F : List Assn} {A B : Assn} [h : PickC H A F] : PickC (B :: H) A (B :: F) := ⟨by
  rintro x m ⟨h1, h2, hd, rfl, hb, hl⟩
  exact sepL_swap ⟨h1, h2, hd, rfl, hb, h.get h2 m hl⟩⟩
instance TakeC.nil {H : List Assn} : TakeC H [] H := ⟨fun _ _ h => h⟩
instance TakeC.cons {H H' L F : List Assn} {A : Assn} [h1 : PickC H A H'] [h2 : TakeC H' L F] : TakeC H (A :: L) F := ⟨by
  intro x m hs
  obtain ⟨y, z, hd, rfl, ha, hl⟩ := h1.get x m hs
  exact ⟨y, z, hd, rfl, ha, h2.get z m hl⟩⟩

theorem Ent.take {H L F : List Assn} (h : TakeC H L F) : Ent H (L ++ F) := fun x m hs => ⟨x, Hp.le_refl x, h.get x m hs⟩
theorem Ent.drop {H L F : List Assn} (h : TakeC H L F) : Ent H L := fun x m hs => by
  obtain ⟨y, z, _, rfl, hl, _⟩ := (sepL_append _ _ _ _).1 (h.get x m hs)
  exact ⟨y, Hp.le_un_left _ _, hl⟩

variable {n : Nat} {Q : Post} {env : Env} {H : List Assn} {dst : Option Tmp} {ty : TypeId} {pos : String} {after : Array Edge} {g : Option (Nat × Bool)}

theorem run_callFunc {f : FuncId} {args : Array Value} {w : World} [h : FnC P f] : (callFunc f args).run P w = .ok (.enter f args) w := by
  obtain ⟨fn, h1, h2, h3⟩ := h.get
  simp only [callFunc, Sem.run_bind, run_program, Result.andThen_ok, h1, h3, h2, Bool.false_eq_true, if_false, Sem.run_pure]

theorem sop_call {f : FuncId} {xs : List Operand} {ts : Array TypeId} {vs : List Value} {H1 F : List Assn} {R : Ending → List Assn → Prop} {K : Value → List Assn → Prop} [hF : FnC P f] [ht : TakeC H H1 F]
    (hx : evL env xs = some vs) (hs : Does P f vs.toArray H1 R) (hk : ∀ v H', R (.returned v) H' → K v (H' ++ F)) (hc : ∀ c H', R (.panicked c) H' → Q (.panic c) [] (H' ++ F))
    (ho : ∀ H', ¬ R .outgrown H') : SOp P n ⟨dst, .call ⟨.value (.func f), xs.toArray, ts⟩, ty, pos, after, g⟩ Q env H K := by
  intro a w m fr se sh
  have hargs : xs.toArray.map a.eval = vs.toArray := by simp [evL_sound se hx]
  have hrun : (execOp a.eval ⟨dst, .call ⟨.value (.func f), xs.toArray, ts⟩, ty, pos, after, g⟩).run P w = .ok (.enter f vs.toArray) w := by
    simp only [execOp, resolve, Act.eval, Deferred.ofValue, Sem.run_bind, Sem.run_pure, Result.andThen_ok, invoke, hargs]
    simpa using run_callFunc (P := P) (f := f) (args := vs.toArray) (w := w)
  unfold OpRes
  rw [hrun]
  refine Calls.mono (hs.frame F w m fr (sh.ent (Ent.take ht))) ?_
  rintro e w' ⟨_, m', ⟨H0, rfl, hR⟩, sh', hm, hst⟩
  cases e with
  | returned v => exact ⟨H0 ++ F, m', hk v H0 hR, sh', hm, hst⟩
  | panicked c => exact ⟨H0 ++ F, m', hc c H0 hR, sh', hm, hst⟩
  | outgrown => exact (ho H0 hR).elim

/-- a call that returns -/
theorem xL_call {ops : Array Oper} {rest : List Oper} {d : Tmp} {f : FuncId} {xs : List Operand} {ts : Array TypeId} {vs : List Value} {H1 F : List Assn} {R : Value → List Assn → Prop} [hF : FnC P f] [ht : TakeC H H1 F]
    (hs : Does P f vs.toArray H1 (Ret R)) (hx : evL env xs = some vs) (hd : Nat.blt d n = true) (hk : ∀ v H', R v H' → xL P n ops rest Q ((d, v) :: env) (H' ++ F)) :
    xL P n ops (⟨some d, .call ⟨.value (.func f), xs.toArray, ts⟩, ty, pos, after, none⟩ :: rest) Q env H :=
  xL_op rfl hd (sop_call (ht := ht) hx hs hk (fun _ _ h => h.elim) (fun _ h => h))
theorem xL_call0 {ops : Array Oper} {rest : List Oper} {f : FuncId} {xs : List Operand} {ts : Array TypeId} {vs : List Value} {H1 F : List Assn} {R : Value → List Assn → Prop} [hF : FnC P f] [ht : TakeC H H1 F]
    (hs : Does P f vs.toArray H1 (Ret R)) (hx : evL env xs = some vs) (hk : ∀ v H', R v H' → xL P n ops rest Q env (H' ++ F)) :
    xL P n ops (⟨none, .call ⟨.value (.func f), xs.toArray, ts⟩, ty, pos, after, none⟩ :: rest) Q env H :=
  xL_op rfl rfl (sop_call (ht := ht) hx hs hk (fun _ _ h => h.elim) (fun _ h => h))
end
end Go.SL
