/- A region whose order is drawn: walked once. What only reads is told when it may first be done, and must read the same as long as it may not yet have been. -/
import Derived.Test.YtjnbanjmehkifaaSlStep
namespace Go.SL

section
variable (ops : Array Oper)
def dstOf (i : Nat) : Option Tmp := (ops[i]?).bind (·.dst)
def sees (d : Option Tmp) (y : Oper) : Bool := match d with | some d => (y.looksAt ops).contains d | none => false
def edgeTo (y : Oper) (x : Nat) : Bool := y.after.toList.any fun e => Region.binds .any e && Nat.beq e.on x
def clash (a b : Option Tmp) : Bool := match a with | some _ => a == b | none => false
/-- x may be told ahead: whoever does not wait for x does not see its slot, and writes another -/
def promOk (x : Nat) : Bool :=
  (List.range ops.size).all fun y => match ops[y]? with
    | some oy => if y == x then !sees ops (dstOf ops x) oy else edgeTo oy x || (!sees ops (dstOf ops x) oy && !clash (dstOf ops x) oy.dst)
    | none => true
/-- j may be done while what is listed may still be owed -/
def effOk (listed : Array Bool) (j : Nat) : Bool :=
  (List.range ops.size).all fun i => i == j || !listed.getD i false || match ops[j]?, ops[i]? with
    | some oj, some oi => edgeTo oj i || !sees ops (dstOf ops j) oi
    | _, _ => true
end

def putsU (ops : Array Oper) (a : Act) : List (Nat × Value) → Act
  | [] => a
  | (i, v) :: U => (putsU ops a U).put (dstOf ops i) v

section
variable {P : Program} {n : Nat} {ops : Array Oper}

theorem sees_spec {d : Option Tmp} {y : Oper} (h : sees ops d y = false) : ∀ t, d = some t → t ∉ y.looksAt ops := by
  intro t ht
  subst ht
  simpa [sees] using h

theorem exec_puts {o : Oper} (hs : ∀ cs b, o.op ≠ .select cs b) : ∀ (U : List (Nat × Value)) (a : Act), (∀ u ∈ U, sees ops (dstOf ops u.1) o = false) →
    execOp (putsU ops a U).eval o = execOp a.eval o
  | [], _, _ => rfl
  | (i, v) :: U, a, h => by
    rw [putsU, execOp_put (ops := ops) o hs _ _ v (sees_spec (h (i, v) (List.mem_cons_self ..)))]
    exact exec_puts hs U a fun u hu => h u (List.mem_cons_of_mem _ hu)
theorem wanted_puts {o : Oper} : ∀ (U : List (Nat × Value)) (a : Act), (∀ u ∈ U, sees ops (dstOf ops u.1) o = false) →
    Region.wanted o (yielded ops (putsU ops a U).tmps) = Region.wanted o (yielded ops a.tmps)
  | [], _, _ => rfl
  | (i, v) :: U, a, h => by
    rw [putsU, wanted_put (ops := ops) o _ _ v (sees_spec (h (i, v) (List.mem_cons_self ..)))]
    exact wanted_puts U a fun u hu => h u (List.mem_cons_of_mem _ hu)
theorem puts_put {d : Option Tmp} (x : Value) : ∀ (U : List (Nat × Value)) (a : Act), (∀ u ∈ U, clash (dstOf ops u.1) d = false) → putsU ops (a.put d x) U = (putsU ops a U).put d x
  | [], _, _ => rfl
  | (i, v) :: U, a, h => by
    rw [putsU, putsU, puts_put x U a fun u hu => h u (List.mem_cons_of_mem _ hu)]
    refine Act.put_comm _ _ _ fun t ht e => ?_
    have hx : clash (dstOf ops i) d = false := by simpa using h (i, v) (List.mem_cons_self ..)
    have ht' : d = some t := ht
    have e' : dstOf ops i = some t := e
    rw [ht', e'] at hx
    simp [clash] at hx
end

variable (P : Program) (n : Nat) (ops : Array Oper) (Q : Post)
/-- what an operation that only reads comes to, its guard looked at -/
def Tells (o : Oper) (env : Env) (H : List Assn) (v : Value) : Prop :=
  match o.guard with
  | none => Quiet P n o env H v
  | some (j, want) => ∃ d b, dstOf ops j = some d ∧ env.get d = some (.bool b) ∧ ((b = want ∧ Quiet P n o env H v) ∨ (b = !want) ∧ v = undef)

def pendOk (env : Env) (H : List Assn) : List (Nat × Value) → Prop
  | [] => True
  | (i, v) :: l => (∃ o, ops[i]? = some o ∧ Tells P n ops o env H v) ∧ pendOk env H l

/-- what is not in the done-for-certain list any more -/
def still (oj : Oper) (pend : List (Nat × Value)) : List (Nat × Value) := pend.filter fun u => !edgeTo oj u.1
def stillE (es : Array Edge) : List (Nat × Value) → List (Nat × Value)
  | [] => []
  | u :: l => bif (es.toList.any fun e => Region.binds .any e && Nat.beq e.on u.1) then stillE es l else u :: stillE es l
theorem still_eq (oj : Oper) : ∀ pend : List (Nat × Value), still oj pend = stillE oj.after pend
  | [] => rfl
  | u :: l => by
    have ih := still_eq oj l
    unfold still at ih ⊢
    simp only [List.filter_cons, stillE]
    cases hb : edgeTo oj u.1 with
    | true => unfold edgeTo at hb; simp [hb, ih]
    | false => unfold edgeTo at hb; simp [hb, ih]

def GuardYes (o : Oper) (env : Env) : Prop :=
  match o.guard with
  | none => True
  | some (j, want) => ∃ d b, dstOf ops j = some d ∧ env.get d = some (.bool b) ∧ b = want

def GuardNo (o : Oper) (env : Env) : Prop :=
  match o.guard with
  | none => False
  | some (j, want) => ∃ d b, dstOf ops j = some d ∧ env.get d = some (.bool b) ∧ b = !want

def AnyS : Nat → Array Bool → List (Nat × Value) → Env → List Assn → Prop
  | 0, listed, _, env, H => Region.ready .any ops listed = [] ∧ Q .normal env H
  | k + 1, listed, pend, env, H =>
    (Region.ready .any ops listed = [] ∧ Q .normal env H) ∨
    (∃ i o v, (Region.ready .any ops listed).contains i = true ∧ ops[i]? = some o ∧ promOk ops i = true ∧ dstOk n o.dst = true ∧ (∀ H', Tells P n ops o env H' v) ∧
      AnyS k (listed.setIfInBounds i true) pend (putE env o.dst v) H) ∨
    (∃ i o v, (Region.ready .any ops listed).contains i = true ∧ ops[i]? = some o ∧ promOk ops i = true ∧ dstOk n o.dst = true ∧ Tells P n ops o env H v ∧
      AnyS k (listed.setIfInBounds i true) ((i, v) :: pend) (putE env o.dst v) H) ∨
    (Region.ready .any ops listed ≠ [] ∧ ∀ j ∈ Region.ready .any ops listed, ∃ o, ops[j]? = some o ∧ effOk ops listed j = true ∧ dstOk n o.dst = true ∧ ((GuardYes ops o env ∧
      SOp P n o Q env H fun v H' => pendOk P n ops (putE env o.dst v) H' (still o pend) ∧ AnyS k (listed.setIfInBounds j true) (still o pend) (putE env o.dst v) H') ∨
      (GuardNo ops o env ∧ AnyS k (listed.setIfInBounds j true) pend (putE env o.dst undef) H)))

section
variable {P : Program} {n : Nat} {ops : Array Oper} {Q : Post}

def Yl (P : Program) (ops : Array Oper) (a : Act) (w : World) (u : Nat × Value) : Prop :=
  ∃ o, ops[u.1]? = some o ∧ ((Region.wanted o (yielded ops a.tmps) = true ∧ (execOp a.eval o).run P w = .ok (.value u.2) w) ∨ (Region.wanted o (yielded ops a.tmps) = false ∧ u.2 = undef))

theorem Tells.yl {o : Oper} {env : Env} {H : List Assn} {v : Value} {i : Nat} {a : Act} {w : World} {m f : Hp} (ho : ops[i]? = some o) (ht : Tells P n ops o env H v) (se : SatE n env a) (sh : SatH H m f w) : Yl P ops a w (i, v) := by
  refine ⟨o, ho, ?_⟩
  unfold Tells at ht
  split at ht
  · rename_i hg
    exact .inl ⟨by simp [Region.wanted, hg], ht a w m f se sh⟩
  · rename_i j want hg
    obtain ⟨d, b, hd, hb, h⟩ := ht
    have hy : yielded ops a.tmps j = some b := by
      unfold dstOf at hd
      simp [yielded, hd, se.get _ _ hb]
    rcases h with ⟨rfl, hq⟩ | ⟨rfl, rfl⟩
    · exact .inl ⟨by simp [Region.wanted, hg, hy], hq a w m f se sh⟩
    · exact .inr ⟨by simp [Region.wanted, hg, hy], rfl⟩

theorem pendOk_mem {env : Env} {H : List Assn} : ∀ {l : List (Nat × Value)}, pendOk P n ops env H l → ∀ u ∈ l, ∃ o, ops[u.1]? = some o ∧ Tells P n ops o env H u.2
  | [], _, _, h => by cases h
  | (i, v) :: l, h, u, hu => by
    rcases List.mem_cons.1 hu with rfl | hu
    · exact h.1
    · exact pendOk_mem h.2 u hu

def unl (listed : Array Bool) (N : Nat) : Nat := (List.range N).countP fun j => !listed.getD j true

theorem countP_lt {p q : Nat → Bool} {j : Nat} (hpq : ∀ i, q i = true → p i = true) (hj : p j = true) (hj' : q j = false) : ∀ {l : List Nat}, j ∈ l → l.countP q < l.countP p
  | x :: l, h => by
    have hle : l.countP q ≤ l.countP p := List.countP_mono_left fun i _ hi => hpq i hi
    simp only [List.countP_cons]
    by_cases hx : x = j
    · subst hx; simp only [hj, hj', if_true]; simp; omega
    · have := countP_lt hpq hj hj' (List.mem_of_ne_of_mem (Ne.symm hx) h)
      by_cases hq : q x = true
      · simp only [hq, hpq x hq, if_true]; omega
      · simp only [hq]; simp; split <;> omega

theorem unl_set {listed : Array Bool} {N j : Nat} (hs : listed.size = N) (hj : listed.getD j true = false) : unl (listed.setIfInBounds j true) N < unl listed N := by
  have hlt : j < N := by
    rcases Nat.lt_or_ge j N with h | h
    · exact h
    · rw [← hs] at h; simp [Array.getElem?_eq_none h] at hj
  refine countP_lt (j := j) ?_ (by simpa using hj) ?_ (List.mem_range.2 hlt)
  · intro i hi
    by_cases hij : j = i
    · subst hij; simp [hs, hlt] at hi
    · rw [getD_set_ne true hij] at hi; exact hi
  · simp [hs, hlt]

theorem getD_tf {listed : Array Bool} {N j : Nat} (hs : listed.size = N) (hlt : j < N) : listed.getD j true = listed.getD j false := by
  have : j < listed.size := by omega
  simp [this]

theorem edgeTo_mk {o : Oper} {e : Edge} {x : Nat} (h : e ∈ o.after) (hb : Region.binds .any e = true) (hx : e.on = x) : edgeTo o x = true := by
  unfold edgeTo
  exact List.any_eq_true.2 ⟨e, by simpa using h, by subst hx; simp [hb, Nat.beq_refl]⟩
theorem edgeTo_of {o : Oper} {x : Nat} (h : edgeTo o x = true) : ∃ e ∈ o.after, Region.binds .any e = true ∧ e.on = x := by
  unfold edgeTo at h
  obtain ⟨e, he, hb⟩ := List.any_eq_true.1 h
  simp only [Bool.and_eq_true] at hb
  exact ⟨e, by simpa using he, hb.1, Nat.eq_of_beq_eq_true hb.2⟩

structure XInv (ops : Array Oper) (listed lr : Array Bool) (U : List (Nat × Value)) : Prop where
  s1 : listed.size = ops.size
  s2 : lr.size = ops.size
  l1 : ∀ j, listed.getD j false = true ↔ lr.getD j false = true ∨ j ∈ U.map (·.1)
  l2 : ∀ u ∈ U, lr.getD u.1 true = false
  deps : ∀ u ∈ U, ∀ o, ops[u.1]? = some o → ∀ e ∈ o.after, Region.binds .any e = true → listed.getD e.on false = true
  order : U.Pairwise fun x y => x.1 ≠ y.1 ∧ ∀ o, ops[y.1]? = some o → edgeTo o x.1 = false
  self : ∀ u ∈ U, ∀ o, ops[u.1]? = some o → edgeTo o u.1 = false
  prom : ∀ u ∈ U, promOk ops u.1 = true

theorem XInv.last {listed lr : Array Bool} {U : List (Nat × Value)} (h : XInv ops listed lr U) (hU : U ≠ []) (hin : ∀ u ∈ U, (ops[u.1]?).isSome = true) : Region.ready .any ops lr ≠ [] := by
  obtain ⟨X, u, hX⟩ : ∃ X u, U = X ++ [u] := ⟨_, _, (List.dropLast_concat_getLast hU).symm⟩
  subst hX
  intro he
  have hmem : u ∈ X ++ [u] := by simp
  obtain ⟨o, ho⟩ := Option.isSome_iff_exists.1 (hin u hmem)
  have : u.1 ∈ Region.ready .any ops lr := by
    rw [mem_ready]
    refine ⟨h.l2 u hmem, o, ho, fun e he hb => ?_⟩
    have hl := h.deps u hmem o ho e he hb
    rcases (h.l1 e.on).1 hl with h' | h'
    · exact h'
    · obtain ⟨x, hx, hxe⟩ := List.mem_map.1 h'
      have hed : edgeTo o x.1 = false := by
        rcases List.mem_append.1 hx with hx | hx
        · exact ((List.pairwise_append.1 h.order).2.2 x hx u (by simp)).2 o ho
        · simp only [List.mem_singleton] at hx
          subst hx
          exact h.self x hmem o ho
      rw [edgeTo_mk he hb hxe.symm] at hed; cases hed
  rw [he] at this
  cases this

theorem promOk_spec {x y : Nat} {oy : Oper} (h : promOk ops x = true) (hy : ops[y]? = some oy) (hne : y ≠ x) :
    edgeTo oy x = true ∨ (sees ops (dstOf ops x) oy = false ∧ clash (dstOf ops x) oy.dst = false) := by
  unfold promOk at h
  rw [List.all_eq_true] at h
  have := h y (List.mem_range.2 (Array.getElem?_eq_some_iff.1 hy).1)
  simp only [hy, beq_iff_eq, hne, if_false, Bool.or_eq_true, Bool.and_eq_true, Bool.not_eq_true'] at this
  exact this
theorem promOk_self {x : Nat} {o : Oper} (h : promOk ops x = true) (hy : ops[x]? = some o) : sees ops (dstOf ops x) o = false := by
  unfold promOk at h
  rw [List.all_eq_true] at h
  have := h x (List.mem_range.2 (Array.getElem?_eq_some_iff.1 hy).1)
  simpa [hy] using this
theorem effOk_spec {listed : Array Bool} {i j : Nat} {oi oj : Oper} (h : effOk ops listed j = true) (hi : ops[i]? = some oi) (hj : ops[j]? = some oj) (hne : i ≠ j) (hl : listed.getD i false = true) :
    edgeTo oj i = true ∨ sees ops (dstOf ops j) oi = false := by
  unfold effOk at h
  rw [List.all_eq_true] at h
  have := h i (List.mem_range.2 (Array.getElem?_eq_some_iff.1 hi).1)
  rw [hi, hj] at this
  simp only [Bool.or_eq_true, beq_iff_eq, hne, false_or, hl, Bool.not_eq_true', Bool.true_eq_false] at this
  exact this

theorem putsU_size (a : Act) : ∀ U : List (Nat × Value), (putsU ops a U).tmps.size = a.tmps.size ∧ (putsU ops a U).defers = a.defers
  | [] => ⟨rfl, rfl⟩
  | (i, v) :: U => by
    have := putsU_size a U
    simp only [putsU]
    cases dstOf ops i <;> simp [Act.put, this]

/-- what is done of what was told ahead -/
theorem putsU_erase {a : Act} {i : Nat} {v : Value} : ∀ {U V : List (Nat × Value)}, (∀ u ∈ U, clash (dstOf ops u.1) (dstOf ops i) = false) → putsU ops a (U ++ (i, v) :: V) = putsU ops ((putsU ops a V).put (dstOf ops i) v) U
  | [], V, _ => rfl
  | (k, x) :: U, V, h => by
    simp only [List.cons_append, putsU]
    rw [putsU_erase fun u hu => h u (List.mem_cons_of_mem _ hu)]
theorem putsU_append (a : Act) : ∀ (U V : List (Nat × Value)), putsU ops a (U ++ V) = putsU ops (putsU ops a V) U
  | [], _ => rfl
  | (k, x) :: U, V => by simp only [List.cons_append, putsU, putsU_append a U V]

theorem Yl.of_unseen {a : Act} {w : World} {u : Nat × Value} {d : Option Tmp} {x : Value} (hsel : Region.noSelect ops = true) (h : Yl P ops a w u) (hn : ∀ o, ops[u.1]? = some o → sees ops d o = false) : Yl P ops (a.put d x) w u := by
  obtain ⟨o, ho, h⟩ := h
  have hs := Region.noSelect_spec hsel u.1 o
  refine ⟨o, ho, ?_⟩
  rw [execOp_put (ops := ops) o (fun cs b => hs cs b ho) a d x (sees_spec (hn o ho)), wanted_put (ops := ops) o a d x (sees_spec (hn o ho))]
  exact h

theorem ready_lt {listed : Array Bool} {j : Nat} (h : j ∈ Region.ready .any ops listed) : j < ops.size := by
  obtain ⟨_, o, ho, _⟩ := mem_ready.1 h
  exact (Array.getElem?_eq_some_iff.1 ho).1

theorem XInv.real {listed lr : Array Bool} {U : List (Nat × Value)} (h : XInv ops listed lr U) {j : Nat} (hj : j ∈ Region.ready .any ops lr) (hU : j ∉ U.map (·.1)) : j ∈ Region.ready .any ops listed := by
  have hlt := ready_lt hj
  obtain ⟨h1, o, ho, h2⟩ := mem_ready.1 hj
  refine mem_ready.2 ⟨?_, o, ho, fun e he hb => (h.l1 e.on).2 (.inl (h2 e he hb))⟩
  rw [getD_tf h.s1 hlt]
  rw [getD_tf h.s2 hlt] at h1
  cases hc : listed.getD j false with
  | false => rfl
  | true =>
    rcases (h.l1 j).1 hc with h' | h'
    · rw [h1] at h'; cases h'
    · exact absurd h' hU

theorem getD_set {l : Array Bool} {i j : Nat} (hi : i < l.size) : (l.setIfInBounds i true).getD j false = true ↔ i = j ∨ l.getD j false = true := by
  by_cases h : i = j
  · subst h; simp [hi]
  · rw [getD_set_ne false h]; simp [h]

theorem anyS_sound (hsel : Region.noSelect ops = true) : ∀ (fuel k : Nat) (listed : Array Bool) (pend : List (Nat × Value)) (env : Env) (H : List Assn), AnyS P n ops Q k listed pend env H →
    ∀ (lr : Array Bool) (U : List (Nat × Value)) (a : Act) (w : World) (m f : Hp) (T : Exit → Act → World → Prop), XInv ops listed lr U →
    (∀ u ∈ U, Yl P ops (putsU ops a U) w u ∧ ((∀ w, Yl P ops (putsU ops a U) w u) ∨ u ∈ pend)) → SatE n env (putsU ops a U) → SatH H m f w → unl lr ops.size ≤ fuel →
    (∀ e a w', post Q n m f w e a w' → T e a w') → wpAny P .any ops T fuel lr a w := by
  intro fuel
  -- nothing is left: all that was told is done
  have hdone : ∀ (k : Nat) (listed : Array Bool) (pend : List (Nat × Value)) (env : Env) (H : List Assn), AnyS P n ops Q k listed pend env H →
      ∀ (lr : Array Bool) (U : List (Nat × Value)) (a : Act) (w : World) (m f : Hp) (T : Exit → Act → World → Prop), XInv ops listed lr U →
      (∀ u ∈ U, Yl P ops (putsU ops a U) w u ∧ ((∀ w, Yl P ops (putsU ops a U) w u) ∨ u ∈ pend)) → SatE n env (putsU ops a U) → SatH H m f w →
      (∀ e a w', post Q n m f w e a w' → T e a w') → Region.ready .any ops lr = [] → T .normal a w := by
    intro k listed pend env H hA lr U a w m f T hI hY se sh hT hr
    have hU : U = [] := by
      rcases Decidable.em (U = []) with h | h
      · exact h
      · exact absurd hr (hI.last h fun u hu => by obtain ⟨o, ho, _⟩ := (hY u hu).1; simp [ho])
    subst hU
    have hno : ∀ i, i ∉ Region.ready .any ops listed := by
      intro i hi
      have hlt := ready_lt hi
      obtain ⟨h1, o, ho, h2⟩ := mem_ready.1 hi
      have : i ∈ Region.ready .any ops lr := by
        refine mem_ready.2 ⟨?_, o, ho, fun e he hb => ?_⟩
        · rw [getD_tf hI.s2 hlt]
          rw [getD_tf hI.s1 hlt] at h1
          cases hc : lr.getD i false with
          | false => rfl
          | true => rw [(hI.l1 i).2 (.inl hc)] at h1; cases h1
        · simpa using (hI.l1 e.on).1 (h2 e he hb)
      rw [hr] at this; cases this
    have hQ : Q .normal env H := by
      cases k with
      | zero => exact hA.2
      | succ k =>
        rcases hA with h | ⟨i, o, v, hi, _⟩ | ⟨i, o, v, hi, _⟩ | ⟨hne, _⟩
        · exact h.2
        · exact absurd (by simpa using hi) (hno i)
        · exact absurd (by simpa using hi) (hno i)
        · obtain ⟨i, hi⟩ := List.exists_mem_of_ne_nil _ hne
          exact absurd hi (hno i)
    exact hT _ _ _ ⟨env, H, m, hQ, se, sh, Hp.le_refl m, Str.refl w⟩
  induction fuel with
  | zero =>
    intro k listed pend env H hA lr U a w m f T hI hY se sh hu hT
    have hr : Region.ready .any ops lr = [] := by
      by_cases he : Region.ready .any ops lr = []
      · exact he
      · obtain ⟨j, hj⟩ := List.exists_mem_of_ne_nil _ he
        obtain ⟨h1, _⟩ := mem_ready.1 hj
        have := unl_set (N := ops.size) hI.s2 h1
        omega
    exact ⟨hr, hdone k listed pend env H hA lr U a w m f T hI hY se sh hT hr⟩
  | succ fuel ih =>
    -- one of those that were told is done
    have hown : ∀ (k : Nat) (listed : Array Bool) (pend : List (Nat × Value)) (env : Env) (H : List Assn), AnyS P n ops Q k listed pend env H →
        ∀ (lr : Array Bool) (U : List (Nat × Value)) (a : Act) (w : World) (m f : Hp) (T : Exit → Act → World → Prop), XInv ops listed lr U →
        (∀ u ∈ U, Yl P ops (putsU ops a U) w u ∧ ((∀ w, Yl P ops (putsU ops a U) w u) ∨ u ∈ pend)) → SatE n env (putsU ops a U) → SatH H m f w → unl lr ops.size ≤ fuel + 1 →
        (∀ e a w', post Q n m f w e a w' → T e a w') → ∀ j ∈ Region.ready .any ops lr, j ∈ U.map (·.1) → wpOp P ops T j (wpAny P .any ops T fuel (lr.setIfInBounds j true)) a w := by
      intro k listed pend env H hA lr U a w m f T hI hY se sh hu hT j hj hjU
      obtain ⟨u, huU, rfl⟩ := List.mem_map.1 hjU
      obtain ⟨v, hv⟩ : ∃ v, u = (u.1, v) := ⟨u.2, rfl⟩
      obtain ⟨X, Y, rfl⟩ := List.append_of_mem huU
      obtain ⟨h1, o, ho, h2⟩ := mem_ready.1 hj
      have hlt := ready_lt hj
      have hnoedge : ∀ x, lr.getD x false = false → edgeTo o x = false := by
        intro x hx
        cases he : edgeTo o x with
        | false => rfl
        | true =>
          obtain ⟨e, he2, hb, hex⟩ := edgeTo_of he
          have := h2 e he2 hb
          rw [hex, hx] at this; cases this
      have hlrU : ∀ x ∈ X ++ u :: Y, lr.getD x.1 false = false := by
        intro x hx
        have := hI.l2 x hx
        have hxl : x.1 < ops.size := by obtain ⟨o', ho', _⟩ := (hY x hx).1; exact (Array.getElem?_eq_some_iff.1 ho').1
        rwa [getD_tf hI.s2 hxl] at this
      have hsee : ∀ x ∈ X ++ u :: Y, sees ops (dstOf ops x.1) o = false := by
        intro x hx
        by_cases hxu : u.1 = x.1
        · have hp := promOk_self (hI.prom x hx) (hxu ▸ ho); exact hp
        · rcases promOk_spec (hI.prom x hx) ho hxu with h | h
          · rw [hnoedge x.1 (hlrU x hx)] at h; cases h
          · exact h.1
      have hclash : ∀ x ∈ Y, clash (dstOf ops x.1) (dstOf ops u.1) = false := by
        intro x hx
        have hmem : x ∈ X ++ u :: Y := by simp [hx]
        have hne : u.1 ≠ x.1 := by
          have := (List.pairwise_append.1 hI.order).2.1
          exact ((List.pairwise_cons.1 this).1 x hx).1
        rcases promOk_spec (hI.prom x hmem) ho hne with h | h
        · rw [hnoedge x.1 (hlrU x hmem)] at h; cases h
        · have : dstOf ops u.1 = o.dst := by simp [dstOf, ho]
          rw [this]; exact h.2
      have hsel1 := Region.noSelect_spec hsel u.1 o
      obtain ⟨⟨o', ho', hyl⟩, _⟩ := hY u huU
      rw [ho] at ho'
      obtain rfl : o = o' := by simpa using ho'
      rw [exec_puts (fun cs b => hsel1 cs b ho) _ a hsee, wanted_puts _ a hsee] at hyl
      have hputs : putsU ops (a.put (dstOf ops u.1) u.2) (X ++ Y) = putsU ops a (X ++ u :: Y) := by
        rw [putsU_append, putsU_append, puts_put u.2 Y a hclash]
        rfl
      have hnext : wpAny P .any ops T fuel (lr.setIfInBounds u.1 true) (a.put o.dst u.2) w := by
        have hd : o.dst = dstOf ops u.1 := by simp [dstOf, ho]
        rw [hd]
        have hlr : u.1 < lr.size := by rw [hI.s2]; exact hlt
        refine ih k listed pend env H hA _ (X ++ Y) _ w m f T ?_ ?_ ?_ sh ?_ hT
        · refine ⟨hI.s1, by simp [hI.s2], ?_, ?_, ?_, ?_, ?_, ?_⟩
          · intro x
            rw [hI.l1 x, getD_set hlr]
            simp only [List.map_append, List.map_cons, List.mem_append, List.mem_cons]
            constructor
            · rintro (h | h | h | h)
              · exact .inl (.inr h)
              · exact .inr (.inl h)
              · exact .inl (.inl h.symm)
              · exact .inr (.inr h)
            · rintro ((h | h) | h | h)
              · exact .inr (.inr (.inl h.symm))
              · exact .inl h
              · exact .inr (.inl h)
              · exact .inr (.inr (.inr h))
          · intro x hx
            have hne : u.1 ≠ x.1 := by
              have hp := List.pairwise_append.1 hI.order
              rcases List.mem_append.1 hx with h | h
              · exact fun e => (hp.2.2 x h u (by simp)).1 e.symm
              · exact ((List.pairwise_cons.1 hp.2.1).1 x h).1
            rw [getD_set_ne true hne]
            exact hI.l2 x (by simp at hx ⊢; rcases hx with h | h <;> simp [h])
          · intro x hx; exact hI.deps x (by simp at hx ⊢; rcases hx with h | h <;> simp [h])
          · have hp := List.pairwise_append.1 hI.order
            exact List.pairwise_append.2 ⟨hp.1, (List.pairwise_cons.1 hp.2.1).2, fun x hx y hy => hp.2.2 x hx y (by simp [hy])⟩
          · intro x hx; exact hI.self x (by simp at hx ⊢; rcases hx with h | h <;> simp [h])
          · intro x hx; exact hI.prom x (by simp at hx ⊢; rcases hx with h | h <;> simp [h])
        · intro x hx
          rw [hputs]
          exact hY x (by simp at hx ⊢; rcases hx with h | h <;> simp [h])
        · rw [hputs]; exact se
        · have := unl_set (N := ops.size) hI.s2 h1; omega
      unfold wpOp
      simp only [ho]
      rcases hyl with ⟨hw, hr⟩ | ⟨hw, hr⟩
      · rw [if_pos hw]
        refine .inl ?_
        unfold Oper.wp
        rw [hr]
        exact hnext
      · rw [if_neg (by simp [hw]), ← hr]
        exact hnext
    intro k
    induction k with
    | zero =>
      intro listed pend env H hA lr U a w m f T hI hY se sh hu hT
      refine ⟨hdone 0 listed pend env H hA lr U a w m f T hI hY se sh hT, fun j hj => ?_⟩
      by_cases hjU : j ∈ U.map (·.1)
      · exact hown 0 listed pend env H hA lr U a w m f T hI hY se sh hu hT j hj hjU
      · have := hI.real hj hjU
        rw [hA.1] at this; cases this
    | succ k ihk =>
      intro listed pend env H hA lr U a w m f T hI hY se sh hu hT
      refine ⟨hdone (k + 1) listed pend env H hA lr U a w m f T hI hY se sh hT, fun j hj => ?_⟩
      by_cases hjU : j ∈ U.map (·.1)
      · exact hown (k + 1) listed pend env H hA lr U a w m f T hI hY se sh hu hT j hj hjU
      have hjr := hI.real hj hjU
      -- telling one more
      have htell : ∀ i o v pend', i ∈ Region.ready .any ops listed → ops[i]? = some o → promOk ops i = true → dstOk n o.dst = true →
          (Yl P ops (putsU ops a U) w (i, v) ∧ ((∀ w, Yl P ops (putsU ops a U) w (i, v)) ∨ (i, v) ∈ pend')) → (∀ u ∈ pend, u ∈ pend') →
          AnyS P n ops Q k (listed.setIfInBounds i true) pend' (putE env o.dst v) H → wpOp P ops T j (wpAny P .any ops T fuel (lr.setIfInBounds j true)) a w := by
        intro i o v pend' hi ho hp hd hyl hsub hA'
        obtain ⟨h1, o', ho', h2⟩ := mem_ready.1 hi
        rw [ho] at ho'
        obtain rfl : o = o' := by simpa using ho'
        have hlt := ready_lt hi
        have hls : i < listed.size := by rw [hI.s1]; exact hlt
        have hdst : o.dst = dstOf ops i := by simp [dstOf, ho]
        have h1f : listed.getD i false = false := by rwa [getD_tf hI.s1 hlt] at h1
        have hiU : i ∉ U.map (·.1) := fun h => by rw [(hI.l1 i).2 (.inr h)] at h1f; cases h1f
        have hseeU : ∀ u ∈ U, ∀ ou, ops[u.1]? = some ou → sees ops (dstOf ops i) ou = false := by
          intro u hu ou hou
          have hne : u.1 ≠ i := fun e => hiU (List.mem_map.2 ⟨u, hu, e⟩)
          rcases promOk_spec hp hou hne with h | h
          · obtain ⟨e, he, hb, hex⟩ := edgeTo_of h
            have := hI.deps u hu ou hou e he hb
            rw [hex, h1f] at this; cases this
          · exact h.1
        have hseeI : ∀ oi, ops[i]? = some oi → sees ops (dstOf ops i) oi = false := fun oi hoi => promOk_self hp hoi
        have hI' : XInv ops (listed.setIfInBounds i true) lr ((i, v) :: U) := by
          refine ⟨by simp [hI.s1], hI.s2, ?_, ?_, ?_, ?_, ?_, ?_⟩
          · intro x
            rw [getD_set hls, hI.l1 x]
            simp only [List.map_cons, List.mem_cons]
            constructor
            · rintro (h | h | h)
              · exact .inr (.inl h.symm)
              · exact .inl h
              · exact .inr (.inr h)
            · rintro (h | h | h)
              · exact .inr (.inl h)
              · exact .inl h.symm
              · exact .inr (.inr h)
          · intro u hu
            rcases List.mem_cons.1 hu with rfl | hu
            · show lr.getD i true = false
              rw [getD_tf hI.s2 hlt]
              cases hc : lr.getD i false with
              | false => rfl
              | true => rw [(hI.l1 i).2 (.inl hc)] at h1f; cases h1f
            · exact hI.l2 u hu
          · intro u hu ou hou e he hb
            refine (getD_set hls).2 (.inr ?_)
            rcases List.mem_cons.1 hu with rfl | hu
            · have hou' : ops[i]? = some ou := hou
              rw [ho] at hou'
              obtain rfl : o = ou := by simpa using hou'
              exact h2 e he hb
            · exact hI.deps u hu ou hou e he hb
          · refine List.pairwise_cons.2 ⟨fun u hu => ⟨fun e => hiU (List.mem_map.2 ⟨u, hu, e.symm⟩), fun ou hou => ?_⟩, hI.order⟩
            cases hc : edgeTo ou i with
            | false => rfl
            | true =>
              obtain ⟨e, he, hb, hex⟩ := edgeTo_of hc
              have := hI.deps u hu ou hou e he hb
              rw [hex, h1f] at this; cases this
          · intro u hu ou hou
            rcases List.mem_cons.1 hu with rfl | hu
            · have hou' : ops[i]? = some ou := hou
              rw [ho] at hou'
              obtain rfl : o = ou := by simpa using hou'
              cases hc : edgeTo o i with
              | false => rfl
              | true =>
                obtain ⟨e, he, hb, hex⟩ := edgeTo_of hc
                have := h2 e he hb
                rw [hex, h1f] at this; cases this
            · exact hI.self u hu ou hou
          · intro u hu
            rcases List.mem_cons.1 hu with rfl | hu
            · exact hp
            · exact hI.prom u hu
        refine (ihk _ _ _ _ hA' lr ((i, v) :: U) a w m f T hI' ?_ ?_ sh hu hT).2 j hj
        · intro u hu
          simp only [putsU]
          rcases List.mem_cons.1 hu with rfl | hu
          · exact ⟨hyl.1.of_unseen hsel hseeI, hyl.2.imp (fun h w => (h w).of_unseen hsel hseeI) id⟩
          · exact ⟨(hY u hu).1.of_unseen hsel (hseeU u hu), (hY u hu).2.imp (fun h w => (h w).of_unseen hsel (hseeU u hu)) (hsub u)⟩
        · simp only [putsU]
          rw [← hdst]
          exact se.put v hd
      rcases hA with h | ⟨i, o, v, hi, ho, hp, hd, ht, hA'⟩ | ⟨i, o, v, hi, ho, hp, hd, ht, hA'⟩ | ⟨_, hall⟩
      · rw [h.1] at hjr; cases hjr
      · have hyl : ∀ w, Yl P ops (putsU ops a U) w (i, v) := by
          intro w1
          have hemp : SatH [] Hp.emp Hp.emp w1 := ⟨Hp.emp, rfl, Hp.emp_le _, Hp.emp_le _, Hp.emp_le _, Hp.emp_dis _, Hp.emp_dis _, Hp.emp_dis _⟩
          exact Tells.yl ho (ht []) se hemp
        exact htell i o v pend (by simpa using hi) ho hp hd ⟨hyl w, .inl hyl⟩ (fun _ h => h) hA'
      · exact htell i o v _ (by simpa using hi) ho hp hd ⟨Tells.yl ho ht se sh, .inr (List.mem_cons_self ..)⟩ (fun _ h => List.mem_cons_of_mem _ h) hA'
      · obtain ⟨o, ho, he, hd, hgop⟩ := hall j hjr
        obtain ⟨h1, o', ho', h2⟩ := mem_ready.1 hj
        rw [ho] at ho'
        obtain rfl : o = o' := by simpa using ho'
        have hlt := ready_lt hj
        have hlr : j < lr.size := by rw [hI.s2]; exact hlt
        have hls : j < listed.size := by rw [hI.s1]; exact hlt
        have hdst : o.dst = dstOf ops j := by simp [dstOf, ho]
        have hlrU : ∀ x ∈ U, lr.getD x.1 false = false := by
          intro x hx
          have := hI.l2 x hx
          have hxl : x.1 < ops.size := by obtain ⟨o', ho', _⟩ := (hY x hx).1; exact (Array.getElem?_eq_some_iff.1 ho').1
          rwa [getD_tf hI.s2 hxl] at this
        have hnoedge : ∀ x ∈ U, edgeTo o x.1 = false := by
          intro x hx
          cases hc : edgeTo o x.1 with
          | false => rfl
          | true =>
            obtain ⟨e, he, hb, hex⟩ := edgeTo_of hc
            have := h2 e he hb
            rw [hex, hlrU x hx] at this; cases this
        have hne : ∀ x ∈ U, j ≠ x.1 := fun x hx e => hjU (List.mem_map.2 ⟨x, hx, e.symm⟩)
        have hsee : ∀ x ∈ U, sees ops (dstOf ops x.1) o = false ∧ clash (dstOf ops x.1) o.dst = false := by
          intro x hx
          rcases promOk_spec (hI.prom x hx) ho (hne x hx) with h | h
          · rw [hnoedge x hx] at h; cases h
          · exact h
        have hsel1 := Region.noSelect_spec hsel j o
        have hex := exec_puts (ops := ops) (fun cs b => hsel1 cs b ho) U a (fun x hx => (hsee x hx).1)
        have hun : ∀ x ∈ U, ∀ ox, ops[x.1]? = some ox → sees ops o.dst ox = false := by
          intro x hx ox hox
          have hl : listed.getD x.1 false = true := (hI.l1 x.1).2 (.inr (List.mem_map.2 ⟨x, hx, rfl⟩))
          rcases effOk_spec he hox ho (Ne.symm (hne x hx)) hl with h | h
          · rw [hnoedge x hx] at h; cases h
          · rw [hdst]; exact h
        have hputs : ∀ v, putsU ops (a.put o.dst v) U = (putsU ops a U).put o.dst v := fun v => puts_put v U a fun x hx => (hsee x hx).2
        have hI' : XInv ops (listed.setIfInBounds j true) (lr.setIfInBounds j true) U := by
          refine ⟨by simp [hI.s1], by simp [hI.s2], ?_, ?_, ?_, hI.order, hI.self, hI.prom⟩
          · intro x
            rw [getD_set hls, getD_set hlr, hI.l1 x]
            constructor
            · rintro (h | h | h)
              · exact .inl (.inl h)
              · exact .inl (.inr h)
              · exact .inr h
            · rintro ((h | h) | h)
              · exact .inl h
              · exact .inr (.inl h)
              · exact .inr (.inr h)
          · intro x hx
            rw [getD_set_ne true (hne x hx)]
            exact hI.l2 x hx
          · intro x hx ox hox e he hb
            exact (getD_set hls).2 (.inr (hI.deps x hx ox hox e he hb))
        have hfuel : unl (lr.setIfInBounds j true) ops.size ≤ fuel := by have := unl_set (N := ops.size) hI.s2 h1; omega
        rcases hgop with ⟨hg, hop⟩ | ⟨hg, hA'⟩
        · have hwt : Region.wanted o (yielded ops a.tmps) = true := by
            rw [← wanted_puts U a fun x hx => (hsee x hx).1]
            unfold GuardYes at hg
            split at hg
            · rename_i hg'; simp [Region.wanted, hg']
            · rename_i i want hg'
              obtain ⟨d, b, hd', hb, rfl⟩ := hg
              unfold dstOf at hd'
              simp [Region.wanted, hg', yielded, hd', se.get _ _ hb]
          have hres := hop _ w m f se sh
          rw [hex] at hres
          unfold wpOp
          simp only [ho]
          rw [if_pos hwt]
          refine .inl (hres.wp ?_ ?_)
          · rintro v w' ⟨H', m', ⟨hpd, hA'⟩, sh', hm, hs⟩
            refine ih k _ _ _ H' hA' _ U _ w' m' f T hI' ?_ ?_ sh' hfuel (fun e a w1 hp => hT e a w1 (post_trans hm hs hp))
            · intro x hx
              rw [hputs]
              rcases (hY x hx).2 with h | h
              · exact ⟨(h w').of_unseen hsel (hun x hx), .inl fun w => (h w).of_unseen hsel (hun x hx)⟩
              · have hst : x ∈ still o pend := by
                  unfold still
                  exact List.mem_filter.2 ⟨h, by simp [hnoedge x hx]⟩
                obtain ⟨ox, hox, hto⟩ := pendOk_mem hpd x hst
                exact ⟨Tells.yl hox hto (se.put v hd) sh', .inr hst⟩
            · rw [hputs]; exact se.put v hd
          · rintro c w' ⟨H', m', hq, sh', hm, hs⟩
            refine hT _ _ _ ⟨[], H', m', hq, ⟨?_, ?_, fun t v h => by simp [Env.get] at h⟩, sh', hm, hs⟩
            · rw [← (putsU_size (ops := ops) a U).1]; exact se.size
            · rw [← (putsU_size (ops := ops) a U).2]; exact se.defers
        · have hwt : Region.wanted o (yielded ops a.tmps) = false := by
            rw [← wanted_puts U a fun x hx => (hsee x hx).1]
            unfold GuardNo at hg
            split at hg
            · exact hg.elim
            · rename_i i want hg'
              obtain ⟨d, b, hd', hb, rfl⟩ := hg
              unfold dstOf at hd'
              simp [Region.wanted, hg', yielded, hd', se.get _ _ hb]
          unfold wpOp
          simp only [ho]
          rw [if_neg (by simp [hwt])]
          refine ih k _ _ _ H hA' _ U _ w m f T hI' ?_ ?_ sh hfuel hT
          · intro x hx
            rw [hputs]
            exact ⟨(hY x hx).1.of_unseen hsel (hun x hx), (hY x hx).2.imp (fun h w => (h w).of_unseen hsel (hun x hx)) id⟩
          · rw [hputs]; exact se.put undef hd

theorem xW_draw {id : Nat} {l : List Oper} {env : Env} {H : List Assn} (hm : P.follows .mixedOrders = true) (hsel : Region.noSelect l.toArray = true)
    {k : Nat} (h : AnyS P n l.toArray Q k (Array.replicate l.length false) [] env H) : xW P n (.region id l.toArray true) Q env H := by
  intro a w m f se sh
  refine wp_region_any hm ?_
  simp only [List.size_toArray]
  refine anyS_sound hsel l.length k _ _ env H h _ [] a _ m f _ ?_ (fun u hu => by cases hu) se (sh.same rfl) ?_ (fun e a' w' hp => post_trans (w := w) (w1 := { w with drawn := w.drawn + 1 }) (Hp.le_refl m) ⟨rfl, rfl, rfl⟩ hp)
  · exact ⟨by simp, by simp, fun j => by simp [Array.getElem?_replicate], (fun u hu => by cases hu), (fun u hu => by cases hu), List.Pairwise.nil, (fun u hu => by cases hu), (fun u hu => by cases hu)⟩
  · unfold unl
    have := List.countP_le_length (p := fun j => !(Array.replicate l.length false).getD j true) (l := List.range l.toArray.size)
    simpa using this
end

inductive Kd | p | h | e
/-- the road that a region is walked by: what is told (p: it looks at no memory; h: it reads), and what is done (e) -/
def planOk (n : Nat) (ops : Array Oper) : Array Bool → List (Kd × Nat) → Bool
  | listed, [] => (Region.ready .any ops listed).isEmpty
  | listed, (.e, j) :: r => (Region.ready .any ops listed == [j]) && effOk ops listed j && ((ops[j]?).map fun o => dstOk n o.dst) == some true && planOk n ops (listed.setIfInBounds j true) r
  | listed, (_, i) :: r => (Region.ready .any ops listed).contains i && promOk ops i && ((ops[i]?).map fun o => dstOk n o.dst) == some true && planOk n ops (listed.setIfInBounds i true) r

section
variable (P : Program) (n : Nat) (ops : Array Oper) (Q : Post)
def RunP : List (Kd × Nat) → List (Nat × Value) → Env → List Assn → Prop
  | [], _, env, H => Q .normal env H
  | (.p, i) :: r, pend, env, H => ∃ o v, ops[i]? = some o ∧ (∀ H', Tells P n ops o env H' v) ∧ RunP r pend (putE env o.dst v) H
  | (.h, i) :: r, pend, env, H => ∃ o v, ops[i]? = some o ∧ Tells P n ops o env H v ∧ RunP r ((i, v) :: pend) (putE env o.dst v) H
  | (.e, j) :: r, pend, env, H => ∃ o, ops[j]? = some o ∧ ((GuardYes ops o env ∧
      SOp P n o Q env H fun v H' => pendOk P n ops (putE env o.dst v) H' (still o pend) ∧ RunP r (still o pend) (putE env o.dst v) H') ∨ (GuardNo ops o env ∧ RunP r pend (putE env o.dst undef) H))
end

section
variable {P : Program} {n : Nat} {ops : Array Oper} {Q : Post}

theorem SOp.mono {o : Oper} {env : Env} {H : List Assn} {K K' : Value → List Assn → Prop} (h : SOp P n o Q env H K) (hk : ∀ v H', K v H' → K' v H') : SOp P n o Q env H K' :=
  fun a w m f se sh => (h a w m f se sh).mono (fun _ _ ⟨H', m', k, r⟩ => ⟨H', m', hk _ _ k, r⟩) (fun _ _ h => h)

theorem plan_sound : ∀ (plan : List (Kd × Nat)) (listed : Array Bool) (pend : List (Nat × Value)) (env : Env) (H : List Assn), planOk n ops listed plan = true → RunP P n ops Q plan pend env H →
    AnyS P n ops Q plan.length listed pend env H
  | [], listed, pend, env, H, hp, hr => by
    simp only [planOk, List.isEmpty_iff] at hp
    exact ⟨hp, hr⟩
  | (.p, i) :: r, listed, pend, env, H, hp, ⟨o, v, ho, ht, hr⟩ => by
    simp only [planOk, Bool.and_eq_true, ho, Option.map_some, beq_iff_eq, Option.some.injEq] at hp
    exact .inr (.inl ⟨i, o, v, hp.1.1.1, ho, hp.1.1.2, hp.1.2, ht, plan_sound r _ _ _ _ hp.2 hr⟩)
  | (.h, i) :: r, listed, pend, env, H, hp, ⟨o, v, ho, ht, hr⟩ => by
    simp only [planOk, Bool.and_eq_true, ho, Option.map_some, beq_iff_eq, Option.some.injEq] at hp
    exact .inr (.inr (.inl ⟨i, o, v, hp.1.1.1, ho, hp.1.1.2, hp.1.2, ht, plan_sound r _ _ _ _ hp.2 hr⟩))
  | (.e, j) :: r, listed, pend, env, H, hp, ⟨o, ho, hgs⟩ => by
    simp only [planOk, Bool.and_eq_true, ho, Option.map_some, beq_iff_eq, Option.some.injEq] at hp
    refine .inr (.inr (.inr ⟨by rw [hp.1.1.1]; simp, ?_⟩))
    rw [hp.1.1.1]
    intro k hk
    obtain rfl : k = j := by simpa using hk
    refine ⟨o, ho, hp.1.1.2, hp.1.2, ?_⟩
    rcases hgs with ⟨hg, hs⟩ | ⟨hg, hs⟩
    · exact .inl ⟨hg, hs.mono fun v H' ⟨h1, h2⟩ => ⟨h1, plan_sound r _ _ _ _ hp.2 h2⟩⟩
    · exact .inr ⟨hg, plan_sound r _ _ _ _ hp.2 hs⟩

theorem xW_plan {id : Nat} {l : List Oper} {env : Env} {H : List Assn} (plan : List (Kd × Nat)) (hm : P.follows .mixedOrders = true) (hsel : Region.noSelect l.toArray = true)
    (hp : planOk n l.toArray (Array.replicate l.length false) plan = true) (h : RunP P n l.toArray Q plan [] env H) : xW P n (.region id l.toArray true) Q env H :=
  xW_draw hm hsel (plan_sound plan _ _ _ _ hp h)

variable {env : Env} {H : List Assn} {pend : List (Nat × Value)} {r : List (Kd × Nat)} {i : Nat} {op : Op} {ty : TypeId} {pos : String} {after : Array Edge}
theorem run_nil (h : Q .normal env H) : RunP P n ops Q [] pend env H := h
theorem run_p {d : Tmp} {v : Value} (ho : ops[i]? = some ⟨some d, op, ty, pos, after, none⟩) (hq : ∀ H', Quiet P n ⟨some d, op, ty, pos, after, none⟩ env H' v)
    (h : RunP P n ops Q r pend ((d, v) :: env) H) : RunP P n ops Q ((.p, i) :: r) pend env H := ⟨_, v, ho, hq, h⟩
theorem run_h {d : Tmp} {v : Value} (ho : ops[i]? = some ⟨some d, op, ty, pos, after, none⟩) (hq : Quiet P n ⟨some d, op, ty, pos, after, none⟩ env H v)
    (h : RunP P n ops Q r ((i, v) :: pend) ((d, v) :: env) H) : RunP P n ops Q ((.h, i) :: r) pend env H := ⟨_, v, ho, hq, h⟩
theorem told_yes {o : Oper} {j d : Nat} {want b : Bool} {v : Value} (hg : o.guard = some (j, want)) (hj : dstOf ops j = some d) (hb : env.get d = some (.bool b)) (hbw : b = want) (hq : Quiet P n o env H v) : Tells P n ops o env H v := by
  unfold Tells; rw [hg]; exact ⟨d, b, hj, hb, .inl ⟨hbw, hq⟩⟩
theorem told_no {o : Oper} {j d : Nat} {want b : Bool} (hg : o.guard = some (j, want)) (hj : dstOf ops j = some d) (hb : env.get d = some (.bool b)) (hbw : b = !want) : Tells P n ops o env H undef := by
  unfold Tells; rw [hg]; exact ⟨d, b, hj, hb, .inr ⟨hbw, rfl⟩⟩
theorem run_py {d j e : Tmp} {v : Value} {want b : Bool} (ho : ops[i]? = some ⟨some d, op, ty, pos, after, some (j, want)⟩) (hj : dstOf ops j = some e) (hb : env.get e = some (.bool b)) (hbw : b = want)
    (hq : ∀ H', Quiet P n ⟨some d, op, ty, pos, after, some (j, want)⟩ env H' v) (h : RunP P n ops Q r pend ((d, v) :: env) H) : RunP P n ops Q ((.p, i) :: r) pend env H :=
  ⟨_, v, ho, fun H' => told_yes rfl hj hb hbw (hq H'), h⟩
theorem run_pn {d j e : Tmp} {want b : Bool} (ho : ops[i]? = some ⟨some d, op, ty, pos, after, some (j, want)⟩) (hj : dstOf ops j = some e) (hb : env.get e = some (.bool b)) (hbw : b = !want)
    (h : RunP P n ops Q r pend ((d, undef) :: env) H) : RunP P n ops Q ((.p, i) :: r) pend env H :=
  ⟨_, undef, ho, fun _ => told_no rfl hj hb hbw, h⟩
theorem run_hy {d j e : Tmp} {v : Value} {want b : Bool} (ho : ops[i]? = some ⟨some d, op, ty, pos, after, some (j, want)⟩) (hj : dstOf ops j = some e) (hb : env.get e = some (.bool b)) (hbw : b = want)
    (hq : Quiet P n ⟨some d, op, ty, pos, after, some (j, want)⟩ env H v) (h : RunP P n ops Q r ((i, v) :: pend) ((d, v) :: env) H) : RunP P n ops Q ((.h, i) :: r) pend env H :=
  ⟨_, v, ho, told_yes rfl hj hb hbw hq, h⟩
theorem run_hn {d j e : Tmp} {want b : Bool} (ho : ops[i]? = some ⟨some d, op, ty, pos, after, some (j, want)⟩) (hj : dstOf ops j = some e) (hb : env.get e = some (.bool b)) (hbw : b = !want)
    (h : RunP P n ops Q r ((i, undef) :: pend) ((d, undef) :: env) H) : RunP P n ops Q ((.h, i) :: r) pend env H :=
  ⟨_, undef, ho, told_no rfl hj hb hbw, h⟩
section
variable {d j e : Tmp} {v : Value} {b : Bool}
theorem run_pyt (ho : ops[i]? = some ⟨some d, op, ty, pos, after, some (j, true)⟩) (hj : dstOf ops j = some e) (hb : env.get e = some (.bool b)) (hbw : b = true)
    (hq : ∀ H', Quiet P n ⟨some d, op, ty, pos, after, some (j, true)⟩ env H' v) (h : RunP P n ops Q r pend ((d, v) :: env) H) : RunP P n ops Q ((.p, i) :: r) pend env H := run_py ho hj hb hbw hq h
theorem run_pyf (ho : ops[i]? = some ⟨some d, op, ty, pos, after, some (j, false)⟩) (hj : dstOf ops j = some e) (hb : env.get e = some (.bool b)) (hbw : b = false)
    (hq : ∀ H', Quiet P n ⟨some d, op, ty, pos, after, some (j, false)⟩ env H' v) (h : RunP P n ops Q r pend ((d, v) :: env) H) : RunP P n ops Q ((.p, i) :: r) pend env H := run_py ho hj hb hbw hq h
theorem run_hyt (ho : ops[i]? = some ⟨some d, op, ty, pos, after, some (j, true)⟩) (hj : dstOf ops j = some e) (hb : env.get e = some (.bool b)) (hbw : b = true)
    (hq : Quiet P n ⟨some d, op, ty, pos, after, some (j, true)⟩ env H v) (h : RunP P n ops Q r ((i, v) :: pend) ((d, v) :: env) H) : RunP P n ops Q ((.h, i) :: r) pend env H := run_hy ho hj hb hbw hq h
theorem run_hyf (ho : ops[i]? = some ⟨some d, op, ty, pos, after, some (j, false)⟩) (hj : dstOf ops j = some e) (hb : env.get e = some (.bool b)) (hbw : b = false)
    (hq : Quiet P n ⟨some d, op, ty, pos, after, some (j, false)⟩ env H v) (h : RunP P n ops Q r ((i, v) :: pend) ((d, v) :: env) H) : RunP P n ops Q ((.h, i) :: r) pend env H := run_hy ho hj hb hbw hq h
theorem run_pnt (ho : ops[i]? = some ⟨some d, op, ty, pos, after, some (j, true)⟩) (hj : dstOf ops j = some e) (hb : env.get e = some (.bool b)) (hbw : b = false)
    (h : RunP P n ops Q r pend ((d, undef) :: env) H) : RunP P n ops Q ((.p, i) :: r) pend env H := run_pn ho hj hb (by simp [hbw]) h
theorem run_pnf (ho : ops[i]? = some ⟨some d, op, ty, pos, after, some (j, false)⟩) (hj : dstOf ops j = some e) (hb : env.get e = some (.bool b)) (hbw : b = true)
    (h : RunP P n ops Q r pend ((d, undef) :: env) H) : RunP P n ops Q ((.p, i) :: r) pend env H := run_pn ho hj hb (by simp [hbw]) h
theorem run_hnt (ho : ops[i]? = some ⟨some d, op, ty, pos, after, some (j, true)⟩) (hj : dstOf ops j = some e) (hb : env.get e = some (.bool b)) (hbw : b = false)
    (h : RunP P n ops Q r ((i, undef) :: pend) ((d, undef) :: env) H) : RunP P n ops Q ((.h, i) :: r) pend env H := run_hn ho hj hb (by simp [hbw]) h
theorem run_hnf (ho : ops[i]? = some ⟨some d, op, ty, pos, after, some (j, false)⟩) (hj : dstOf ops j = some e) (hb : env.get e = some (.bool b)) (hbw : b = true)
    (h : RunP P n ops Q r ((i, undef) :: pend) ((d, undef) :: env) H) : RunP P n ops Q ((.h, i) :: r) pend env H := run_hn ho hj hb (by simp [hbw]) h
theorem run_split {k : Kd} {w : Bool} {dd : Option Tmp} (ho : ops[i]? = some ⟨dd, op, ty, pos, after, some (j, w)⟩) (hj : dstOf ops j = some e) (hb : env.get e = some (.bool b))
    (h1 : b = true → RunP P n ops Q ((k, i) :: r) pend env H) (h2 : b = false → RunP P n ops Q ((k, i) :: r) pend env H) : RunP P n ops Q ((k, i) :: r) pend env H := by
  cases b
  · exact h2 rfl
  · exact h1 rfl
end

/-- an operation that acts; nothing is owed any more -/
theorem run_e {dd : Option Tmp} (ho : ops[i]? = some ⟨dd, op, ty, pos, after, none⟩) (hst : stillE after pend = []) (h : SOp P n ⟨dd, op, ty, pos, after, none⟩ Q env H fun v H' => RunP P n ops Q r [] (putE env dd v) H') :
    RunP P n ops Q ((.e, i) :: r) pend env H := by
  refine ⟨_, ho, .inl ⟨by unfold GuardYes; trivial, ?_⟩⟩
  rw [still_eq, hst]
  exact h.mono fun v H' h => ⟨trivial, h⟩
theorem run_e' {dd : Option Tmp} (pend' : List (Nat × Value)) (ho : ops[i]? = some ⟨dd, op, ty, pos, after, none⟩) (hst : stillE after pend = pend')
    (h : SOp P n ⟨dd, op, ty, pos, after, none⟩ Q env H fun v H' => pendOk P n ops (putE env dd v) H' pend' ∧ RunP P n ops Q r pend' (putE env dd v) H') : RunP P n ops Q ((.e, i) :: r) pend env H := by
  refine ⟨_, ho, .inl ⟨by unfold GuardYes; trivial, ?_⟩⟩
  rw [still_eq, hst]
  exact h
/-- an operation that acts, under a guard -/
theorem run_ey {o : Oper} {j e : Tmp} {want b : Bool} (ho : ops[i]? = some o) (hg : o.guard = some (j, want)) (hj : dstOf ops j = some e) (hb : env.get e = some (.bool b)) (hbw : b = want)
    (hst : still o pend = []) (h : SOp P n o Q env H fun v H' => RunP P n ops Q r [] (putE env o.dst v) H') : RunP P n ops Q ((.e, i) :: r) pend env H := by
  refine ⟨o, ho, .inl ⟨by unfold GuardYes; rw [hg]; exact ⟨e, b, hj, hb, hbw⟩, ?_⟩⟩
  rw [hst]
  exact h.mono fun v H' h => ⟨trivial, h⟩
theorem run_en {o : Oper} {j e : Tmp} {want b : Bool} (ho : ops[i]? = some o) (hg : o.guard = some (j, want)) (hj : dstOf ops j = some e) (hb : env.get e = some (.bool b)) (hbw : b = !want)
    (h : RunP P n ops Q r pend (putE env o.dst undef) H) : RunP P n ops Q ((.e, i) :: r) pend env H :=
  ⟨o, ho, .inr ⟨by unfold GuardNo; rw [hg]; exact ⟨e, b, hj, hb, hbw⟩, h⟩⟩
end
end Go.SL
