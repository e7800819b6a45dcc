/- slicing, copy, maps from whole numbers. -/
import Derived.Test.YtjnbanjmehkifaaSlApp
namespace Go.SL

section
variable {P : Program} {n : Nat} {Q : Post} {env : Env} {H F : List Assn} {dst : Option Tmp} {ty : TypeId} {pos : String} {after : Array Edge} {g : Option (Nat × Bool)}

theorem run_bound {x : Nat} {k : IntKind} {y : Nat} {code : BoundsCode} {w : World} (h : x ≤ y) : (Instr.sliceBound (.int k (x : Int)) y code).run P w = .ok x w := by
  simp [Instr.sliceBound, asIntOf, h]

/-- a[:] of an array -/
theorem q_slice_arr {t e : TypeId} {agg : Bool} {size bytes len : Nat} {zero : Value} {x : Operand} {b o : Nat} [hA : ArrC P t len e] [hE : TyC P e agg size bytes zero]
    (hx : evS env x = some (.pointer (some ⟨b, o, none⟩))) : Quiet P n ⟨dst, .slice t x none none none, ty, pos, after, g⟩ env H (.slice (some ⟨b, o, none⟩) len len) := by
  intro a w m f se sh
  simp [execOp, evS_sound se hx, Instr.sliceAt, run_under _ hA.get, Instr.sureAddr, Instr.sliceBounds, run_xsizeOf (h := hE), add_none]

/-- s[lo:hi] -/
theorem q_slice_lohi {t e : TypeId} {agg : Bool} {size bytes len cap L M : Nat} {zero : Value} {x lo hi : Operand} {b o : Nat} {j k : IntKind} [hS : SliceC P t e] [hE : TyC P e agg size bytes zero]
    (hx : evS env x = some (.slice (some ⟨b, o, none⟩) len cap)) (hlo : evS env lo = some (.int j (L : Int))) (hhi : evS env hi = some (.int k (M : Int))) (h1 : L ≤ M) (h2 : M ≤ cap) :
    Quiet P n ⟨dst, .slice t x (some lo) (some hi) none, ty, pos, after, g⟩ env H (.slice (some ⟨b, if cap = L then o else o + L * size, none⟩) (M - L) (cap - L)) := by
  intro a w m f se sh
  simp only [execOp, evS_sound se hx, Option.map_some, Option.map_none, evS_sound se hlo, evS_sound se hhi, Instr.sliceAt, Instr.slice, Sem.run_bind, run_under _ hS.get, Result.andThen_ok, Instr.sliceBounds, Sem.run_pure, run_bound (P := P) h2, if_true, Option.isSome_none, Bool.false_eq_true, if_false, run_bound (P := P) h1, run_xsizeOf (h := hE)]
  by_cases hc : cap = L <;> simp [hc, add_none]
/-- s[lo:] -/
theorem q_slice_lo {t e : TypeId} {agg : Bool} {size bytes len cap L : Nat} {zero : Value} {x lo : Operand} {b o : Nat} {j : IntKind} [hS : SliceC P t e] [hE : TyC P e agg size bytes zero]
    (hx : evS env x = some (.slice (some ⟨b, o, none⟩) len cap)) (hlo : evS env lo = some (.int j (L : Int))) (h1 : L ≤ len) :
    Quiet P n ⟨dst, .slice t x (some lo) none none, ty, pos, after, g⟩ env H (.slice (some ⟨b, if cap = L then o else o + L * size, none⟩) (len - L) (cap - L)) := by
  intro a w m f se sh
  simp only [execOp, evS_sound se hx, Option.map_some, Option.map_none, evS_sound se hlo, Instr.sliceAt, Instr.slice, Sem.run_bind, run_under _ hS.get, Result.andThen_ok, Instr.sliceBounds, Sem.run_pure, Option.isSome_none, Bool.false_eq_true, if_false, run_bound (P := P) h1, run_xsizeOf (h := hE)]
  by_cases hc : cap = L <;> simp [hc, add_none]
/-- s[:hi] -/
theorem q_slice_hi {t e : TypeId} {agg : Bool} {size bytes len cap M : Nat} {zero : Value} {x hi : Operand} {b o : Nat} {k : IntKind} [hS : SliceC P t e] [hE : TyC P e agg size bytes zero]
    (hx : evS env x = some (.slice (some ⟨b, o, none⟩) len cap)) (hhi : evS env hi = some (.int k (M : Int))) (h2 : M ≤ cap) :
    Quiet P n ⟨dst, .slice t x none (some hi) none, ty, pos, after, g⟩ env H (.slice (some ⟨b, o, none⟩) M cap) := by
  intro a w m f se sh
  simp only [execOp, evS_sound se hx, Option.map_some, Option.map_none, evS_sound se hhi, Instr.sliceAt, Instr.slice, Sem.run_bind, run_under _ hS.get, Result.andThen_ok, Instr.sliceBounds, Sem.run_pure, Bool.false_eq_true, if_false, if_true, run_bound (P := P) h2, run_xsizeOf (h := hE)]
  by_cases hc : cap = 0 <;> simp [hc, add_none]
/-- s[lo:hi:max] -/
theorem q_slice3 {t e : TypeId} {agg : Bool} {size bytes len cap L M X : Nat} {zero : Value} {x lo hi mx : Operand} {b o : Nat} {i j k : IntKind} [hS : SliceC P t e] [hE : TyC P e agg size bytes zero]
    (hx : evS env x = some (.slice (some ⟨b, o, none⟩) len cap)) (hlo : evS env lo = some (.int j (L : Int))) (hhi : evS env hi = some (.int k (M : Int))) (hmx : evS env mx = some (.int i (X : Int))) (h1 : L ≤ M) (h2 : M ≤ X) (h3 : X ≤ cap) :
    Quiet P n ⟨dst, .slice t x (some lo) (some hi) (some mx), ty, pos, after, g⟩ env H (.slice (some ⟨b, if X = L then o else o + L * size, none⟩) (M - L) (X - L)) := by
  intro a w m f se sh
  simp only [execOp, evS_sound se hx, Option.map_some, evS_sound se hlo, evS_sound se hhi, evS_sound se hmx, Instr.sliceAt, Instr.slice, Sem.run_bind, run_under _ hS.get, Result.andThen_ok, Instr.sliceBounds, Sem.run_pure, if_true, Option.isSome_some, run_bound (P := P) h3, run_bound (P := P) h2, run_bound (P := P) h1, run_xsizeOf (h := hE)]
  by_cases hc : X = L <;> simp [hc, add_none]

/-- copy of a slice into cells of one's own -/
theorem e_copy {t t2 e : TypeId} {agg : Bool} {size bytes len cap k : Nat} {zero u : Value} {x y : Operand} {b o : Nat} {c : Array Value} {e' : TypeId} {ys : List Value} {H' : List Assn} [hS : SliceC P t e] [hE : TyC P e agg size bytes zero]
    [hr : RdC H b (.cells c e' (0, 0))] [hw : WrC H b (.cells (putAt c o (ys.take (min k len * size))) e' (0, 0)) H'] (hx : evS env x = some (.slice (some ⟨b, o, none⟩) len cap)) (hy : evS env y = some u) (hsh : Shows H u size k ys)
    (h1 : ∀ v ∈ ys, v.oneCell' = true) (ho : o + len * size ≤ c.size) : Eff P n ⟨dst, .call ⟨.builtin .copy, #[x, y], #[t, t2]⟩, ty, pos, after, g⟩ env H (.int .i64 ((min k len : Nat) : Int)) H' := by
  intro a w m f se sh
  obtain ⟨p, ucap, rfl, hfc⟩ := hsh.cells (P := P) sh
  have hb := sh.rd hr.get
  have hf2 : (Builtin.firstCells size (min k len) (.slice p k ucap)).run P w = .ok (ys.take (min k len * size)).toArray w := by
    obtain ⟨p', cap', e1, hl, h⟩ := hsh
    simp only [Value.slice.injEq] at e1
    obtain ⟨rfl, _, rfl⟩ := e1
    rcases h with h0 | ⟨b2, o2, c2, e2, fr2, rfl, hr2, hs2⟩
    · have : ys = [] := List.length_eq_zero_iff.1 (by omega)
      subst this
      have h00 : min k len * size = 0 := by
        rcases Nat.mul_eq_zero.1 h0 with h | h
        · subst h; simp
        · subst h; simp
      cases p with
      | none => simp [Builtin.firstCells]
      | some q => simp [Builtin.firstCells, h00, loadCells, loadCellsFrom]
    · have hle : min k len * size ≤ ys.length := by rw [hl]; exact Nat.mul_le_mul_right _ (Nat.min_le_left _ _)
      have hs3 := hs2.sub 0 (min k len * size) (by omega)
      simp only [List.drop_zero, Nat.add_zero] at hs3
      have hlen : (ys.take (min k len * size)).length = min k len * size := by simp; omega
      simp only [Builtin.firstCells]
      have h4 := hs3.1
      rw [hlen] at h4
      rw [run_xloadCells (P := P) (sh.rd hr2) h4]
      have h5 := hs3.extract
      rw [hlen] at h5
      rw [h5]
  obtain ⟨w', hrun, hstr, hh⟩ := run_storeCells (P := P) (b := b) (o := o) (e := e') (ys.take (min k len * size)) 0 c w hb (by
    simp only [List.length_take]
    have : min k len * size ≤ len * size := Nat.mul_le_mul_right _ (Nat.min_le_right _ _)
    omega) (fun v hv => h1 v (List.mem_of_mem_take hv))
  refine ⟨.value (.int .i64 ((min k len : Nat) : Int)), w', m, ?_, .inl rfl, sh.upd hw.get (by intro x; rw [hh x]; rfl), Hp.le_refl m, hstr⟩
  simp only [execOp, resolve, List.map_toArray, List.map_cons, List.map_nil, evS_sound se hx, evS_sound se hy, Sem.run_bind, Sem.run_pure, Result.andThen_ok, invoke, builtin, Builtin.copy_, List.getElem?_toArray, List.getElem?_cons_zero, List.getElem?_cons_succ, run_under _ hS.get, run_xsizeOf (h := hE), Builtin.lenOf]
  have e1 : Nat.min k len = min k len := rfl
  rw [e1, hf2]
  simp only [Result.andThen_ok, hrun]
  rfl
end

/-! maps from int -/
section
variable {α : Type}
def aget : List (Int × α) → Int → Option α
  | [], _ => none
  | (j, y) :: l, k => if j = k then some y else aget l k
def aput : List (Int × α) → Int → α → List (Int × α)
  | [], k, x => [(k, x)]
  | (j, y) :: l, k, x => if j = k then (k, x) :: l else (j, y) :: aput l k x
def adel : List (Int × α) → Int → List (Int × α)
  | [], _ => []
  | (j, y) :: l, k => if j = k then l else (j, y) :: adel l k

theorem aget_aput (l : List (Int × α)) (k : Int) (x : α) (j : Int) : aget (aput l k x) j = if k = j then some x else aget l j := by
  induction l with
  | nil => simp [aput, aget]
  | cons p l ih =>
    obtain ⟨i, y⟩ := p
    simp only [aput]
    by_cases h : i = k
    · subst h; simp only [if_true, aget]; split <;> rfl
    · simp only [h, if_false, aget, ih]
      by_cases hj : i = j
      · subst hj; simp [Ne.symm h]
      · simp [hj]

def EncMap (enc : α → Value) (es : Array MapEntry) (l : List (Int × α)) : Prop := es.toList.map (fun e => (e.key, e.val)) = l.map fun p => (Value.int .i64 p.1, enc p.2)

/-- a map of one's own -/
def mapA (enc : α → Value) (b : Nat) (l : List (Int × α)) : Assn := ⟨fun h _ => ∃ es cl, EncMap enc es l ∧ h = Hp.one b (.map es cl), fun _ _ _ _ h => h⟩

def MapRd (H : List Assn) (b : Nat) (enc : α → Value) (l : List (Int × α)) : Prop := ∀ h m, sepL H h m → ∃ es cl, EncMap enc es l ∧ (h b = some (.map es cl) ∨ m b = some (.map es cl))
end
class MapRdC (H : List Assn) (b : Nat) {α : outParam Type} (enc : outParam (α → Value)) (l : outParam (List (Int × α))) : Prop where
  get : MapRd H b enc l
instance (priority := 1100) MapRdC.head {α : Type} {H : List Assn} {b : Nat} {enc : α → Value} {l : List (Int × α)} : MapRdC (mapA enc b l :: H) b enc l := ⟨by
  rintro h m ⟨p, q, hd, rfl, ⟨es, cl, he, rfl⟩, _⟩
  exact ⟨es, cl, he, .inl (by simp [Hp.un, Hp.one])⟩⟩
instance (priority := 900) MapRdC.tail {α : Type} {H : List Assn} {A : Assn} {b : Nat} {enc : α → Value} {l : List (Int × α)} [h : MapRdC H b enc l] : MapRdC (A :: H) b enc l := ⟨by
  rintro x m ⟨p, q, hd, rfl, _, hl⟩
  obtain ⟨es, cl, he, h⟩ := h.get q m hl
  exact ⟨es, cl, he, h.imp (Hp.le_un_right hd _ _) id⟩⟩
/-- the map b is written: whatever it becomes -/
class MapWrC (H : List Assn) (b : Nat) {α : Type} (enc : α → Value) (l' : List (Int × α)) (H' : outParam (List Assn)) : Prop where
  get : ∀ h m, sepL H h m → (∃ o, h b = some o) ∧ ∀ es' cl', EncMap enc es' l' → sepL H' (fun x => if x = b then some (.map es' cl') else h x) m
instance (priority := 1100) MapWrC.head {α : Type} {H : List Assn} {b : Nat} {enc : α → Value} {l l' : List (Int × α)} : MapWrC (mapA enc b l :: H) b enc l' (mapA enc b l' :: H) := ⟨by
  rintro h m ⟨p, q, hd, rfl, ⟨es, cl, he, rfl⟩, hl⟩
  refine ⟨⟨_, by simp [Hp.un, Hp.one]; rfl⟩, fun es' cl' he' => ?_⟩
  obtain ⟨_, h2⟩ := Wr.head (H := H) (b := b) (o := .map es cl) (o' := .map es' cl') _ m ⟨_, q, hd, rfl, rfl, hl⟩
  obtain ⟨p', q', hd', he'', hp', hl'⟩ := h2
  exact ⟨p', q', hd', he'', ⟨es', cl', he', hp'⟩, hl'⟩⟩
instance (priority := 900) MapWrC.tail {α : Type} {H H' : List Assn} {A : Assn} {b : Nat} {enc : α → Value} {l' : List (Int × α)} [hw : MapWrC H b enc l' H'] : MapWrC (A :: H) b enc l' (A :: H') := ⟨by
  rintro h m ⟨p, q, hd, rfl, ha, hl⟩
  obtain ⟨⟨o, hb⟩, hall⟩ := hw.get q m hl
  refine ⟨⟨o, Hp.le_un_right hd _ _ hb⟩, fun es' cl' he' => ?_⟩
  have hb1 : p b = none := Hp.dis_symm hd b _ hb
  refine ⟨p, _, ?_, ?_, ha, hall es' cl' he'⟩
  · intro x y e
    by_cases hx : x = b
    · subst hx; rw [hb1] at e; cases e
    · simp [hx, hd x y e]
  · funext x
    by_cases hx : x = b
    · subst hx; simp [Hp.un, hb1]
    · simp [Hp.un, hx]⟩

section
variable {α : Type} {P : Program} {n : Nat} {Q : Post} {env : Env} {H F : List Assn} {dst : Option Tmp} {ty : TypeId} {pos : String} {after : Array Edge} {g : Option (Nat × Bool)}

theorem findNow_get {enc : α → Value} (k : Int) : ∀ (es : List MapEntry) (l : List (Int × α)) (i : Nat), es.map (fun e => (e.key, e.val)) = l.map (fun p => (Value.int .i64 p.1, enc p.2)) →
    ∃ r, Instr.findNow (.int .i64) (.int .i64 k) es i = some r ∧ r.map (·.2) = (aget l k).map enc
  | [], [], i, _ => ⟨none, rfl, rfl⟩
  | [], _ :: _, _, h => by simp at h
  | _ :: _, [], _, h => by simp at h
  | e :: es, (j, y) :: l, i, h => by
    simp only [List.map_cons, List.cons.injEq, Prod.mk.injEq] at h
    obtain ⟨⟨h1, h2⟩, h3⟩ := h
    obtain ⟨r, hr, hv⟩ := findNow_get k es l (i + 1) h3
    simp only [Instr.findNow, h1, Instr.sameNow, if_true]
    by_cases hk : k = j
    · subst hk; refine ⟨some (i, e.val), by simp, by simp [aget, h2]⟩
    · have : (k == j) = false := by simpa using hk
      rw [this]
      exact ⟨r, hr, by rw [hv]; simp [aget, Ne.symm hk]⟩

theorem run_getObj {r : Nat} {w : World} {es : Array MapEntry} {cl : Nat} (h : w.heap[r]? = some (.map es cl)) : (getObj r).run P w = .ok (.map es cl) w := by
  simp [getObj, Sem.run, h]

theorem run_checkKey {b : Bool} {kt : TypeId} {k : Int} {w : World} [hK : IntC P kt .i64] : (Instr.checkKey b 10000 kt (.int .i64 k)).run P w = .ok () w := by
  have h : ∀ q, (Instr.checkKey b (q + 1) kt (.int .i64 k)).run P w = .ok () w := fun q => by simp [Instr.checkKey, run_under _ hK.get]
  exact h 9999

theorem SatH.mapRd {H : List Assn} {m f : Hp} {w : World} {b : Nat} {enc : α → Value} {l : List (Int × α)} (sh : SatH H m f w) (hr : MapRd H b enc l) : ∃ es cl, EncMap enc es l ∧ w.heap[b]? = some (.map es cl) := by
  obtain ⟨h, h1, h2, h3, _⟩ := sh
  obtain ⟨es, cl, he, hb⟩ := hr h m h1
  exact ⟨es, cl, he, hb.elim (h2 _ _) (h3 _ _)⟩

theorem run_lookup {t kt e : TypeId} {agg : Bool} {size bytes : Nat} {zero : Value} {b : Nat} {k : Int} {enc : α → Value} {l : List (Int × α)} {ok : Bool} {w : World} {es : Array MapEntry} {cl : Nat} [hM : MapC P t kt e] [hK : IntC P kt .i64] [hE : TyC P e agg size bytes zero]
    (he : EncMap enc es l) (hb : w.heap[b]? = some (.map es cl)) : (Instr.lookup t (.map (some b)) (.int .i64 k) ok).run P w = .ok (if ok then .tuple #[((aget l k).map enc).getD zero, .bool (aget l k).isSome] else ((aget l k).map enc).getD zero) w := by
  obtain ⟨r, hr, hv⟩ := findNow_get (enc := enc) k es.toList l 0 he
  simp only [Instr.lookup, Sem.run_bind, run_under _ hM.get, Result.andThen_ok, run_getObj (P := P) hb, Sem.run_pure, run_checkKey, Instr.findKey, run_under _ hK.get, hr]
  cases r with
  | none =>
    have hn : aget l k = none := by cases hg : aget l k <;> simp [hg] at hv ⊢
    simp only [hn, Option.map_none, Option.getD_none, Option.isSome_none, Sem.run_bind, run_zeroValue (h := hE), Result.andThen_ok, Sem.run_pure]
  | some x =>
    obtain ⟨i, v⟩ := x
    cases hg : aget l k with
    | none => simp [hg] at hv
    | some y =>
      simp only [hg, Option.map_some, Option.some.injEq] at hv
      simp [← hv]

theorem q_lookup {t kt e : TypeId} {agg : Bool} {size bytes : Nat} {zero : Value} {x y : Operand} {b : Nat} {k : Int} {enc : α → Value} {l : List (Int × α)} [hM : MapC P t kt e] [hK : IntC P kt .i64] [hE : TyC P e agg size bytes zero] [hr : MapRdC H b enc l]
    (hx : evS env x = some (.map (some b))) (hy : evS env y = some (.int .i64 k)) : Quiet P n ⟨dst, .lookup t x y false, ty, pos, after, g⟩ env H (((aget l k).map enc).getD zero) := by
  intro a w m f se sh
  obtain ⟨es, cl, he, hb⟩ := sh.mapRd hr.get
  simp only [execOp, evS_sound se hx, evS_sound se hy, Sem.run_bind, run_lookup (P := P) (t := t) he hb, Result.andThen_ok, Sem.run_pure, Bool.false_eq_true, if_false]
theorem q_lookup_ok {t kt e : TypeId} {agg : Bool} {size bytes : Nat} {zero : Value} {x y : Operand} {b : Nat} {k : Int} {enc : α → Value} {l : List (Int × α)} [hM : MapC P t kt e] [hK : IntC P kt .i64] [hE : TyC P e agg size bytes zero] [hr : MapRdC H b enc l]
    (hx : evS env x = some (.map (some b))) (hy : evS env y = some (.int .i64 k)) : Quiet P n ⟨dst, .lookup t x y true, ty, pos, after, g⟩ env H (.tuple #[((aget l k).map enc).getD zero, .bool (aget l k).isSome]) := by
  intro a w m f se sh
  obtain ⟨es, cl, he, hb⟩ := sh.mapRd hr.get
  simp only [execOp, evS_sound se hx, evS_sound se hy, Sem.run_bind, run_lookup (P := P) (t := t) he hb, Result.andThen_ok, Sem.run_pure, if_true]
theorem q_len_mapA {x : Operand} {t k e : TypeId} {b : Nat} {enc : α → Value} {l : List (Int × α)} [hM : MapC P t k e] [hr : MapRdC H b enc l] (hx : evS env x = some (.map (some b))) :
    Quiet P n ⟨dst, .call ⟨.builtin .len, #[x], #[t]⟩, ty, pos, after, g⟩ env H (.int .i64 l.length) := by
  intro a w m f se sh
  obtain ⟨es, cl, he, hb⟩ := sh.mapRd hr.get
  have : es.size = l.length := by have := congrArg List.length he; simpa using this
  simp [execOp, resolve, invoke, builtin, evS_sound se hx, Builtin.len_, run_under _ hM.get, goInt, run_getObj (P := P) hb, this]

/-- where a key stands, and what a store there makes of the entries -/
theorem findNow_put {enc : α → Value} (k : Int) (v : α) (φ : MapEntry → MapEntry) (hφ : ∀ e, ((φ e).key, (φ e).val) = (Value.int .i64 k, enc v)) : ∀ (es : List MapEntry) (l : List (Int × α)) (i : Nat), es.map (fun e => (e.key, e.val)) = l.map (fun p => (Value.int .i64 p.1, enc p.2)) →
    (Instr.findNow (.int .i64) (.int .i64 k) es i = some none ∧ aput l k v = l ++ [(k, v)]) ∨
    ∃ j e, Instr.findNow (.int .i64) (.int .i64 k) es i = some (some (i + j, e.val)) ∧ es[j]? = some e ∧ e.key = .int .i64 k ∧ (es.modify j φ).map (fun e => (e.key, e.val)) = (aput l k v).map (fun p => (Value.int .i64 p.1, enc p.2))
  | [], [], i, _ => .inl ⟨rfl, rfl⟩
  | [], _ :: _, _, h => by simp at h
  | _ :: _, [], _, h => by simp at h
  | e :: es, (j, y) :: l, i, h => by
    simp only [List.map_cons, List.cons.injEq, Prod.mk.injEq] at h
    obtain ⟨⟨h1, h2⟩, h3⟩ := h
    simp only [Instr.findNow, h1, Instr.sameNow, if_true]
    by_cases hk : k = j
    · subst hk
      refine .inr ⟨0, e, by simp, rfl, h1, ?_⟩
      simp [aput, hφ, h3]
    · have hkj : (k == j) = false := by simpa using hk
      rw [hkj]
      rcases findNow_put k v φ hφ es l (i + 1) h3 with ⟨hr, hp⟩ | ⟨q, e', hr, hq, hkey, hm⟩
      · exact .inl ⟨hr, by simp [aput, Ne.symm hk, hp]⟩
      · refine .inr ⟨q + 1, e', ?_, by simpa using hq, hkey, ?_⟩
        · show Instr.findNow (.int .i64) (.int .i64 k) es (i + 1) = _
          rw [hr]; congr 3; omega
        · simp [aput, Ne.symm hk, hm, h1, h2]

theorem run_setObj {r : Nat} {w : World} {o : Obj} {es : Array MapEntry} {cl : Nat} (h : w.heap[r]? = some (.map es cl)) : (setObj r o).run P w = .ok () { w with heap := w.heap.setIfInBounds r o } := by
  simp [setObj, Sem.run, h]
theorem heap_setObj {r : Nat} {w : World} {o : Obj} {y : Obj} (h : w.heap[r]? = some y) (x : Nat) : (w.heap.setIfInBounds r o)[x]? = if x = r then some o else w.heap[x]? := by
  by_cases hx : x = r
  · subst hx
    have := (Array.getElem?_eq_some_iff.1 h).1
    simp [this]
  · rw [if_neg hx, Array.getElem?_setIfInBounds_ne (Ne.symm hx)]

theorem SatH.mapWr {H H' : List Assn} {m f : Hp} {w : World} {b : Nat} {enc : α → Value} {l' : List (Int × α)} [hw : MapWrC H b enc l' H'] (sh : SatH H m f w) :
    ∀ es' cl' w', EncMap enc es' l' → (∀ x, w'.heap[x]? = if x = b then some (.map es' cl') else w.heap[x]?) → SatH H' m f w' := by
  obtain ⟨h, h1, h2, h3, h4, h5, h6, h7⟩ := sh
  obtain ⟨⟨o, hb⟩, hall⟩ := hw.get h m h1
  intro es' cl' w' he' hh
  refine ⟨_, hall es' cl' he', ?_, ?_, ?_, ?_, ?_, h7⟩
  · intro x y e
    simp only [hpOf, hh]
    by_cases hx : x = b
    · subst hx; simpa using e
    · simp only [hx, if_false] at e ⊢; exact h2 x y e
  · intro x y e
    have hx : x ≠ b := by rintro rfl; have := h5 x _ hb; simp [this] at e
    simp only [hpOf, hh, hx, if_false]; exact h3 x y e
  · intro x y e
    have hx : x ≠ b := by rintro rfl; have := h6 x _ hb; simp [this] at e
    simp only [hpOf, hh, hx, if_false]; exact h4 x y e
  · intro x y e
    by_cases hx : x = b
    · subst hx; exact h5 x _ hb
    · simp only [hx, if_false] at e; exact h5 x y e
  · intro x y e
    by_cases hx : x = b
    · subst hx; exact h6 x _ hb
    · simp only [hx, if_false] at e; exact h6 x y e

/-- m[k] = v -/
theorem e_mapUpdate {t kt e : TypeId} {x y z : Operand} {b : Nat} {k : Int} {v : α} {enc : α → Value} {l : List (Int × α)} {H' : List Assn} [hM : MapC P t kt e] [hK : IntC P kt .i64] [hr : MapRdC H b enc l] [hw : MapWrC H b enc (aput l k v) H']
    (hx : evS env x = some (.map (some b))) (hy : evS env y = some (.int .i64 k)) (hz : evS env z = some (enc v)) : Eff P n ⟨dst, .mapUpdate t x y z, ty, pos, after, g⟩ env H undef H' := by
  intro a w m f se sh
  obtain ⟨es, cl, he, hb⟩ := sh.mapRd hr.get
  have hall := sh.mapWr (hw := hw)
  rcases findNow_put (enc := enc) k v (fun e => { e with key := .int .i64 k, val := enc v }) (fun _ => rfl) es.toList l 0 he with ⟨hr, hp⟩ | ⟨j, e', hr, hj, hkey, hm⟩
  · refine ⟨.skip, { w with heap := w.heap.setIfInBounds b (.map (es.push { key := .int .i64 k, val := enc v, born := cl }) (cl + 1)) }, m, ?_, .inr ⟨rfl, rfl⟩, ?_, Hp.le_refl m, ⟨rfl, rfl, rfl⟩⟩
    · simp only [execOp, evS_sound se hx, evS_sound se hy, evS_sound se hz, Instr.mapUpdate, Sem.run_bind, run_under _ hM.get, Result.andThen_ok, run_getObj (P := P) hb, run_checkKey, Instr.findKey, run_under _ hK.get, hr, Sem.run_pure, run_setObj (P := P) hb]
    · refine hall _ _ _ ?_ (heap_setObj hb)
      unfold EncMap at he ⊢
      simp [he, hp]
  · simp only [Nat.zero_add] at hr
    refine ⟨.skip, { w with heap := w.heap.setIfInBounds b (.map (es.modify j fun e => { e with key := .int .i64 k, val := enc v }) cl) }, m, ?_, .inr ⟨rfl, rfl⟩, ?_, Hp.le_refl m, ⟨rfl, rfl, rfl⟩⟩
    · have hj' : es[j]? = some e' := by simpa using hj
      simp only [execOp, evS_sound se hx, evS_sound se hy, evS_sound se hz, Instr.mapUpdate, Sem.run_bind, run_under _ hM.get, Result.andThen_ok, run_getObj (P := P) hb, run_checkKey, Instr.findKey, run_under _ hK.get, hr, Sem.run_pure, hj', Option.map_some, Option.getD_some, Instr.keyThatStays, hkey, Instr.sameBits, beq_self_eq_true, Bool.and_self, if_true, run_setObj (P := P) hb]
    · refine hall _ _ _ ?_ (heap_setObj hb)
      unfold EncMap at he ⊢
      simpa using hm

theorem n_makeMapA {t : TypeId} {enc : α → Value} : New P n ⟨dst, .makeMap t none, ty, pos, after, g⟩ env H (fun b => .map (some b)) (fun b => mapA enc b ([] : List (Int × α)) :: H) := by
  intro a w m f se sh
  obtain ⟨b, w', m', hr, sh', hm, hs⟩ := n_makeMap (P := P) (n := n) (dst := dst) (ty := ty) (pos := pos) (after := after) (g := g) (t := t) a w m f se sh
  refine ⟨b, w', m', hr, sh'.ent ?_, hm, hs⟩
  rintro h m ⟨p, q, hd, rfl, hp, hl⟩
  exact ⟨_, Hp.le_refl _, p, q, hd, rfl, ⟨#[], 0, rfl, hp⟩, hl⟩
end

section
variable {P : Program} {n : Nat} {Q : Post} {env : Env} {H F : List Assn} {dst : Option Tmp} {ty : TypeId} {pos : String} {after : Array Edge} {g : Option (Nat × Bool)}
/-- a slice literal of one element -/
theorem n_buildSlice1 {t e : TypeId} {size bytes : Nat} {zero : Value} {x : Operand} {l : List Value} [hS : SliceC P t e] [hE : TyC P e true size bytes zero]
    (hx : evS env x = some (.agg l.toArray)) (hsz : l.length = size) (hb : size ≤ 16777216) :
    New P n ⟨dst, .buildSlice t 1 #[(0, x)], ty, pos, after, g⟩ env H (fun b => .slice (some ⟨b, 0, none⟩) 1 1) (fun b => pt b (.cells l.toArray e (0, 0)) :: H) := by
  have := n_buildSlice (P := P) (n := n) (H := H) (env := env) (dst := dst) (ty := ty) (pos := pos) (after := after) (g := g) (t := t) (e := e) (len := 1) (xs := [(0, x)]) (ps := [(0, .agg l.toArray)]) (l := l) (by simp [evP, hx]) (by simp [flatP, Value.cells]) rfl (by simp [Value.cells, hsz]) (by omega)
  exact this
theorem n_buildSlice1s {t e : TypeId} {bytes : Nat} {zero v : Value} {x : Operand} [hS : SliceC P t e] [hE : TyC P e false 1 bytes zero] [hv : OneC v]
    (hx : evS env x = some v) :
    New P n ⟨dst, .buildSlice t 1 #[(0, x)], ty, pos, after, g⟩ env H (fun b => .slice (some ⟨b, 0, none⟩) 1 1) (fun b => pt b (.cells #[v] e (0, 0)) :: H) := by
  have := n_buildSlice (P := P) (n := n) (H := H) (env := env) (dst := dst) (ty := ty) (pos := pos) (after := after) (g := g) (t := t) (e := e) (len := 1) (xs := [(0, x)]) (ps := [(0, v)]) (l := [v]) (by simp [evP, hx]) (by simp [flatP, cells_one hv.one]) rfl (by simp [cells_one hv.one]) (by omega)
  exact this
/-- an empty slice literal -/
theorem n_buildSlice0 {t e : TypeId} {agg : Bool} {size bytes : Nat} {zero : Value} [hS : SliceC P t e] [hE : TyC P e agg size bytes zero] :
    New P n ⟨dst, .buildSlice t 0 #[], ty, pos, after, g⟩ env H (fun b => .slice (some ⟨b, 0, none⟩) 0 0) (fun b => pt b (.cells #[] e (0, 0)) :: H) := by
  have := n_buildSlice (P := P) (n := n) (H := H) (env := env) (dst := dst) (ty := ty) (pos := pos) (after := after) (g := g) (t := t) (e := e) (len := 0) (xs := []) (ps := []) (l := []) (by simp [evP]) (by simp [flatP]) rfl (by simp) (by omega)
  exact this
theorem ent_own_empty {b e sz : Nat} {H : List Assn} : Ent (pt b (.cells #[] e (0, 0)) :: H) (ownS sz (.slice (some ⟨b, 0, none⟩) 0 0) [] :: H) :=
  ent_own (xs := []) (rest := []) (k := 0) (cap := 0) (by simp) (by simp)

theorem pend_cons {ops : Array Oper} {i : Nat} {o : Oper} {v : Value} {l : List (Nat × Value)} (ho : ops[i]? = some o) (hg : o.guard = none) (hq : Quiet P n o env H v) (h : pendOk P n ops env H l) : pendOk P n ops env H ((i, v) :: l) := by
  refine ⟨⟨o, ho, ?_⟩, h⟩
  unfold Tells; rw [hg]; exact hq
end

/-- what is lent: a block that can be read there -/
class LendC (A : Assn) (b : Nat) (o : outParam Obj) : Prop where
  get : ∀ H, Rd (A :: H) b o
instance (priority := 1000) LendC.rd {A : Assn} {H : List Assn} {b : Nat} {o : Obj} [h : LendC A b o] : RdC (A :: H) b o := ⟨h.get H⟩
instance LendC.pt {b : Nat} {o : Obj} : LendC (pt b o) b o := ⟨fun _ => Rd.head⟩
instance LendC.ro {b : Nat} {o : Obj} : LendC (Go.SL.ro b o) b o := ⟨fun _ => Rd.ro⟩
end Go.SL
