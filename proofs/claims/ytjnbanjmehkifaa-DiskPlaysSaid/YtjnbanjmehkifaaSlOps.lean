/- The rules of the operations that only compute, or only read memory. -/
import Derived.Test.YtjnbanjmehkifaaSlCore
namespace Go.SL

def isAggD : TypeDesc → Bool
  | .struct _ | .array _ _ => true
  | _ => false

/-- a type: is it an aggregate; cells; bytes; its zero value -/
class TyC (P : Program) (t : TypeId) (agg : outParam Bool) (size : outParam Nat) (bytes : outParam Nat) (zero : outParam Value) : Prop where
  agg : (P.underlying t).map isAggD = some agg
  size : (P.info? t).map (·.size) = some size
  bytes : (P.info? t).map (·.bytes) = some bytes
  zero : (P.info? t).map (·.zero) = some (some zero)
/-- a struct's field -/
class FldC (P : Program) (s : TypeId) (k : Nat) (off : outParam Nat) (t : outParam TypeId) (agg : outParam Bool) (size : outParam Nat) : Prop where
  get : ∃ fs f, P.underlying s = some (.struct fs) ∧ fs[k]? = some f ∧ f.offset = off ∧ f.type = t ∧ (P.info? f.type).map (·.size) = some size ∧ size ≠ 0 ∧ (P.underlying f.type).map isAggD = some agg
class IntC (P : Program) (t : TypeId) (k : outParam IntKind) : Prop where
  get : P.underlying t = some (.int k)
class StrC (P : Program) (t : TypeId) : Prop where
  get : P.underlying t = some .string
class SliceC (P : Program) (t : TypeId) (e : outParam TypeId) : Prop where
  get : P.underlying t = some (.slice e)
class ArrC (P : Program) (t : TypeId) (len : outParam Nat) (e : outParam TypeId) : Prop where
  get : P.underlying t = some (.array len e)
class MapC (P : Program) (t : TypeId) (k e : outParam TypeId) : Prop where
  get : P.underlying t = some (.map k e)
class PtrC (P : Program) (t : TypeId) (e : outParam TypeId) : Prop where
  get : P.underlying t = some (.pointer e)
/-- a function that has a body -/
class FnC (P : Program) (f : FuncId) : Prop where
  get : ∃ fn, P.funcs[f]? = some fn ∧ fn.body.isNone = false ∧ (fn.name == "runtime.NumGoroutine") = false

section
variable {P : Program} {t : TypeId} {agg : Bool} {size bytes : Nat} {zero : Value}

theorem run_isAgg (w : World) [h : TyC P t agg size bytes zero] : (isAgg t).run P w = .ok agg w := by
  have h1 := h.agg
  cases hu : P.underlying t with
  | none => simp [hu] at h1
  | some d =>
    simp only [hu, Option.map_some, Option.some.injEq] at h1
    subst h1
    unfold isAgg underlying
    simp only [Sem.run_bind, run_program, Result.andThen_ok, hu, Sem.run_pure]
    cases d <;> rfl
theorem run_xsizeOf (w : World) [h : TyC P t agg size bytes zero] : (sizeOf t).run P w = .ok size w := by
  have h1 := h.size
  cases hu : P.info? t with
  | none => simp [hu] at h1
  | some i =>
    simp only [hu, Option.map_some, Option.some.injEq] at h1
    simp [sizeOf, typeInfo, hu, h1]
theorem run_zeroValue (w : World) [h : TyC P t agg size bytes zero] : (zeroValue t).run P w = .ok zero w := by
  have h1 := h.zero
  cases hu : P.info? t with
  | none => simp [hu] at h1
  | some i =>
    simp only [hu, Option.map_some, Option.some.injEq] at h1
    simp [zeroValue, typeInfo, hu, h1]
theorem run_bytesOf (w : World) [h : TyC P t agg size bytes zero] : ∃ i, (typeInfo t).run P w = .ok i w ∧ i.bytes = bytes ∧ i.size = size := by
  have h1 := h.bytes
  have h2 := h.size
  cases hu : P.info? t with
  | none => simp [hu] at h1
  | some i =>
    simp only [hu, Option.map_some, Option.some.injEq] at h1 h2
    exact ⟨i, by simp [typeInfo, hu], h1, h2⟩
theorem run_under {d : TypeDesc} (w : World) (h : P.underlying t = some d) : (underlying t).run P w = .ok d w := by
  simp [underlying, h]
end

theorem add_none (b o k : Nat) : (⟨b, o, none⟩ : Addr).add k = ⟨b, o + k, none⟩ := by
  unfold Addr.add; split
  · subst_vars; rfl
  · rfl

/-- block b is known to hold o -/
def Rd (H : List Assn) (b : Nat) (o : Obj) : Prop := ∀ h m, sepL H h m → h b = some o ∨ m b = some o

theorem Rd.head {H : List Assn} {b : Nat} {o : Obj} : Rd (pt b o :: H) b o := by
  rintro h m ⟨h1, h2, _, rfl, rfl, _⟩
  exact .inl (by simp [Hp.un, Hp.one])
theorem Rd.ro {H : List Assn} {b : Nat} {o : Obj} : Rd (ro b o :: H) b o := by
  rintro h m ⟨h1, h2, _, rfl, ⟨rfl, hm⟩, _⟩
  exact .inr hm
theorem Rd.roAll {H : List Assn} {k : Hp} {b : Nat} {o : Obj} (hk : k b = some o) : Rd (roAll k :: H) b o := by
  rintro h m ⟨h1, h2, _, rfl, ⟨rfl, hm⟩, _⟩
  exact .inr (hm _ _ hk)
theorem Rd.tail {H : List Assn} {A : Assn} {b : Nat} {o : Obj} (hr : Rd H b o) : Rd (A :: H) b o := by
  rintro h m ⟨h1, h2, hd, rfl, _, hl⟩
  rcases hr h2 m hl with h | h
  · exact .inl (Hp.le_un_right hd _ _ h)
  · exact .inr h

theorem SatH.rd {H : List Assn} {m f : Hp} {w : World} {b : Nat} {o : Obj} (sh : SatH H m f w) (hr : Rd H b o) : w.heap[b]? = some o := by
  obtain ⟨h, h1, h2, h3, _⟩ := sh
  rcases hr h m h1 with e | e
  · exact h2 _ _ e
  · exact h3 _ _ e

/-- found by instances -/
class RdC (H : List Assn) (b : Nat) (o : outParam Obj) : Prop where
  get : Rd H b o
instance (priority := 1100) RdC.head {H : List Assn} {b : Nat} {o : Obj} : RdC (pt b o :: H) b o := ⟨Rd.head⟩
instance (priority := 1100) RdC.ro {H : List Assn} {b : Nat} {o : Obj} : RdC (Go.SL.ro b o :: H) b o := ⟨Rd.ro⟩
instance (priority := 900) RdC.tail {H : List Assn} {A : Assn} {b : Nat} {o : Obj} [h : RdC H b o] : RdC (A :: H) b o := ⟨Rd.tail h.get⟩

class GetA (c : Array Value) (i : Nat) (v : outParam Value) : Prop where
  get : c[i]? = some v
instance GetA.zero {a : Value} {l : List Value} : GetA (List.toArray (a :: l)) 0 a := ⟨by simp⟩
instance GetA.succ {a v : Value} {l : List Value} {i : Nat} [h : GetA (List.toArray l) i v] : GetA (List.toArray (a :: l)) (i + 1) v := ⟨by simpa using h.get⟩
class SetA (c : Array Value) (i : Nat) (v : Value) (c' : outParam (Array Value)) : Prop where
  lt : i < c.size
  eq : c.setIfInBounds i v = c'
instance SetA.zero {a v : Value} {l : List Value} : SetA (List.toArray (a :: l)) 0 v (List.toArray (v :: l)) := ⟨by simp, by simp⟩
instance SetA.succ {a v : Value} {l l' : List Value} {i : Nat} [h : SetA (List.toArray l) i v (List.toArray l')] : SetA (List.toArray (a :: l)) (i + 1) v (List.toArray (a :: l')) :=
  ⟨by have := h.lt; simp at this ⊢; omega, by have := h.eq; simp at this ⊢; exact this⟩

section
variable (P : Program) (n : Nat)
def Quiet (o : Oper) (env : Env) (H : List Assn) (v : Value) : Prop :=
  ∀ a w m f, SatE n env a → SatH H m f w → (execOp a.eval o).run P w = .ok (.value v) w
end

section
variable {P : Program} {n : Nat} {Q : Post} {env : Env} {H : List Assn} {K : Value → List Assn → Prop}
  {dst : Option Tmp} {ty : TypeId} {pos : String} {after : Array Edge} {g : Option (Nat × Bool)}

theorem sop_quiet {o : Oper} {v : Value} (hq : Quiet P n o env H v) (hk : K v H) : SOp P n o Q env H K := by
  intro a w m f se sh
  unfold OpRes
  rw [hq a w m f se sh]
  exact ⟨H, m, hk, sh, Hp.le_refl m, Str.refl w⟩

theorem q_move {x : Operand} {v : Value} (hx : evS env x = some v) : Quiet P n ⟨dst, .move x, ty, pos, after, g⟩ env H v := by
  intro a w m f se sh
  simp [execOp, evS_sound se hx]
theorem q_assign {x : Operand} {v : Value} (hx : evS env x = some v) : Quiet P n ⟨dst, .assign x, ty, pos, after, g⟩ env H v := by
  intro a w m f se sh
  simp [execOp, evS_sound se hx]
theorem q_pick {c x y : Operand} {b : Bool} {u v : Value} (hc : evS env c = some (.bool b)) (hx : evS env x = some u) (hy : evS env y = some v) :
    Quiet P n ⟨dst, .pick c x y, ty, pos, after, g⟩ env H (bif b then u else v) := by
  intro a w m f se sh
  simp only [execOp, evS_sound se hc, evS_sound se hx, evS_sound se hy]
  cases b <;> simp [asBool]
theorem q_pick_bool {c x y : Operand} {b u v : Bool} (hc : evS env c = some (.bool b)) (hx : evS env x = some (.bool u)) (hy : evS env y = some (.bool v)) :
    Quiet P n ⟨dst, .pick c x y, ty, pos, after, g⟩ env H (.bool (bif b then u else v)) := by
  have h := q_pick (P := P) (n := n) (H := H) (dst := dst) (ty := ty) (pos := pos) (after := after) (g := g) hc hx hy
  cases b <;> exact h
theorem q_pick_true {c x y : Operand} {b : Bool} {u : Value} (hc : evS env c = some (.bool b)) (hb : b = true) (hx : evS env x = some u) :
    Quiet P n ⟨dst, .pick c x y, ty, pos, after, g⟩ env H u := by
  intro a w m f se sh
  subst hb
  simp [execOp, evS_sound se hc, evS_sound se hx, asBool]
theorem q_pick_false {c x y : Operand} {b : Bool} {u : Value} (hc : evS env c = some (.bool b)) (hb : b = false) (hy : evS env y = some u) :
    Quiet P n ⟨dst, .pick c x y, ty, pos, after, g⟩ env H u := by
  intro a w m f se sh
  subst hb
  simp [execOp, evS_sound se hc, evS_sound se hy, asBool]

theorem run_load_at {b o : Nat} {c : Array Value} {e : TypeId} {fr : Nat × Nat} {v : Value} {w : World} (hb : w.heap[b]? = some (.cells c e fr)) (hv : c[o]? = some v) (m : Mode) :
    (load ⟨b, o, none⟩ m).run P w = .ok v w := by
  rw [run_load]
  have : w.cell? ⟨b, o, none⟩ = some v := by simp [World.cell?, hb, hv]
  rw [this]

theorem run_xloadCellsFrom {b o : Nat} {c : Array Value} {e : TypeId} {fr : Nat × Nat} {w : World} (hb : w.heap[b]? = some (.cells c e fr)) :
    ∀ (k i : Nat) (acc : Array Value), o + i + k ≤ c.size →
    (loadCellsFrom ⟨b, o, none⟩ i k acc).run P w = .ok (acc ++ c.extract (o + i) (o + i + k)) w := by
  intro k
  induction k with
  | zero => intro i acc h; simp [loadCellsFrom]; omega
  | succ k ih =>
    intro i acc h
    have hlt : o + i < c.size := by omega
    simp only [loadCellsFrom, Sem.run_bind]
    rw [add_none, run_load_at (v := c[o + i]) hb (by simp [hlt])]
    simp only [Result.andThen_ok]
    rw [ih (i + 1) _ (by omega)]
    congr 1
    rw [Array.append_eq_append_iff]
    right
    refine ⟨#[c[o+i]], by simp, ?_⟩
    apply Array.ext
    · simp; omega
    · intro j h1 h2
      simp only [Array.getElem_extract, Array.getElem_append, List.size_toArray, List.length_cons, List.length_nil]
      split
      · have : j = 0 := by omega
        subst this; simp
      · congr 1; omega

theorem run_xloadCells {b o k : Nat} {c : Array Value} {e : TypeId} {fr : Nat × Nat} {w : World} (hb : w.heap[b]? = some (.cells c e fr)) (h : o + k ≤ c.size) :
    (loadCells ⟨b, o, none⟩ k).run P w = .ok (c.extract o (o + k)) w := by
  unfold loadCells
  rw [run_xloadCellsFrom hb k 0 #[] (by omega)]
  simp

theorem q_load {t : TypeId} {x : Operand} {b o size bytes : Nat} {zero v : Value} {c : Array Value} {e : TypeId} {fr : Nat × Nat} [hT : TyC P t false size bytes zero]
    [hr : RdC H b (.cells c e fr)] [hv : GetA c o v] (hx : evS env x = some (.pointer (some ⟨b, o, none⟩))) :
    Quiet P n ⟨dst, .load t x, ty, pos, after, g⟩ env H v := by
  intro a w m f se sh
  simp only [execOp, evS_sound se hx, Instr.loadAt, Instr.sureAddr, loadVar, Sem.run_bind, run_isAgg (h := hT), Sem.run_pure, Result.andThen_ok, Bool.false_eq_true, if_false, run_load_at (P := P) (sh.rd hr.get) hv.get]

/-- a cell, by its fact -/
theorem q_load' {t : TypeId} {x : Operand} {b o size bytes : Nat} {zero v : Value} {c : Array Value} {e : TypeId} {fr : Nat × Nat} [hT : TyC P t false size bytes zero]
    [hr : RdC H b (.cells c e fr)] (hx : evS env x = some (.pointer (some ⟨b, o, none⟩))) (hv : c[o]? = some v) :
    Quiet P n ⟨dst, .load t x, ty, pos, after, g⟩ env H v :=
  haveI : GetA c o v := ⟨hv⟩
  q_load hx

theorem q_load_agg {t : TypeId} {x : Operand} {b o size bytes : Nat} {zero : Value} {c : Array Value} {e : TypeId} {fr : Nat × Nat} [hT : TyC P t true size bytes zero]
    [hr : RdC H b (.cells c e fr)] (hx : evS env x = some (.pointer (some ⟨b, o, none⟩))) (hv : o + size ≤ c.size) :
    Quiet P n ⟨dst, .load t x, ty, pos, after, g⟩ env H (.agg (c.extract o (o + size))) := by
  intro a w m f se sh
  simp only [execOp, evS_sound se hx, Instr.loadAt, Instr.sureAddr, loadVar, Sem.run_bind, run_isAgg (h := hT), run_xsizeOf (h := hT), Sem.run_pure, Result.andThen_ok, if_true, run_xloadCells (P := P) (sh.rd hr.get) hv]

theorem q_nilCheck {x : Operand} {p : Addr} (hx : evS env x = some (.pointer (some p))) : Quiet P n ⟨dst, .nilCheck x, ty, pos, after, g⟩ env H (.pointer (some p)) := by
  intro a w m f se sh
  simp [execOp, evS_sound se hx]
theorem q_nilCheck_func {x : Operand} {k : FuncId} {fs cs : Array Value} (hx : evS env x = some (.func (.func k) fs cs)) :
    Quiet P n ⟨dst, .nilCheck x, ty, pos, after, g⟩ env H (.func (.func k) fs cs) := by
  intro a w m f se sh
  simp [execOp, evS_sound se hx]

section bin
variable {xt yt : TypeId} {x y : Operand} {k : IntKind} {u v : Int}
theorem q_add (hx : evS env x = some (.int k u)) (hy : evS env y = some (.int k v)) : Quiet P n ⟨dst, .binOp .add xt x y yt, ty, pos, after, g⟩ env H (.int k (k.wrap (u + v))) := by
  intro a w m f se sh
  simp [execOp, evS_sound se hx, evS_sound se hy, eqGuard, binOp, Op.intArith]
theorem q_sub (hx : evS env x = some (.int k u)) (hy : evS env y = some (.int k v)) : Quiet P n ⟨dst, .binOp .sub xt x y yt, ty, pos, after, g⟩ env H (.int k (k.wrap (u - v))) := by
  intro a w m f se sh
  simp [execOp, evS_sound se hx, evS_sound se hy, eqGuard, binOp, Op.intArith]
theorem q_mul (hx : evS env x = some (.int k u)) (hy : evS env y = some (.int k v)) : Quiet P n ⟨dst, .binOp .mul xt x y yt, ty, pos, after, g⟩ env H (.int k (k.wrap (u * v))) := by
  intro a w m f se sh
  simp [execOp, evS_sound se hx, evS_sound se hy, eqGuard, binOp, Op.intArith]
theorem wrap_i64 {z : Int} (h1 : -9223372036854775808 ≤ z) (h2 : z ≤ 9223372036854775807) : IntKind.i64.wrap z = z := by
  simp only [IntKind.wrap, IntKind.bits, IntKind.signed, Bool.true_and]
  simp
  split <;> omega
theorem wrap_u8 {z : Int} (h1 : 0 ≤ z) (h2 : z < 256) : IntKind.u8.wrap z = z := by
  simp only [IntKind.wrap, IntKind.bits, IntKind.signed, Bool.false_and]
  simp; omega
theorem q_add64 {r : Int} (hx : evS env x = some (.int .i64 u)) (hy : evS env y = some (.int .i64 v)) (hr : u + v = r) (h : -9223372036854775808 ≤ r ∧ r ≤ 9223372036854775807) : Quiet P n ⟨dst, .binOp .add xt x y yt, ty, pos, after, g⟩ env H (.int .i64 r) := by
  have := q_add (P := P) (n := n) (H := H) (dst := dst) (ty := ty) (pos := pos) (after := after) (g := g) (xt := xt) (yt := yt) hx hy
  rwa [hr, wrap_i64 h.1 h.2] at this
theorem q_sub64 {r : Int} (hx : evS env x = some (.int .i64 u)) (hy : evS env y = some (.int .i64 v)) (hr : u - v = r) (h : -9223372036854775808 ≤ r ∧ r ≤ 9223372036854775807) : Quiet P n ⟨dst, .binOp .sub xt x y yt, ty, pos, after, g⟩ env H (.int .i64 r) := by
  have := q_sub (P := P) (n := n) (H := H) (dst := dst) (ty := ty) (pos := pos) (after := after) (g := g) (xt := xt) (yt := yt) hx hy
  rwa [hr, wrap_i64 h.1 h.2] at this
theorem q_mul64 {r : Int} (hx : evS env x = some (.int .i64 u)) (hy : evS env y = some (.int .i64 v)) (hr : u * v = r) (h : -9223372036854775808 ≤ r ∧ r ≤ 9223372036854775807) : Quiet P n ⟨dst, .binOp .mul xt x y yt, ty, pos, after, g⟩ env H (.int .i64 r) := by
  have := q_mul (P := P) (n := n) (H := H) (dst := dst) (ty := ty) (pos := pos) (after := after) (g := g) (xt := xt) (yt := yt) hx hy
  rwa [hr, wrap_i64 h.1 h.2] at this
theorem q_quo (hx : evS env x = some (.int k u)) (hy : evS env y = some (.int k v)) (h0 : v ≠ 0) : Quiet P n ⟨dst, .binOp .quo xt x y yt, ty, pos, after, g⟩ env H (.int k (k.wrap (u.tdiv v))) := by
  intro a w m f se sh
  simp [execOp, evS_sound se hx, evS_sound se hy, eqGuard, binOp, Op.intDiv, h0]
theorem q_rem (hx : evS env x = some (.int k u)) (hy : evS env y = some (.int k v)) (h0 : v ≠ 0) : Quiet P n ⟨dst, .binOp .rem xt x y yt, ty, pos, after, g⟩ env H (.int k (u.tmod v)) := by
  intro a w m f se sh
  simp [execOp, evS_sound se hx, evS_sound se hy, eqGuard, binOp, Op.intDiv, h0]
theorem q_quo64 (hx : evS env x = some (.int .i64 u)) (hy : evS env y = some (.int .i64 v)) (h0 : 0 < v) (hu : 0 ≤ u) (h2 : u ≤ 9223372036854775807) : Quiet P n ⟨dst, .binOp .quo xt x y yt, ty, pos, after, g⟩ env H (.int .i64 (u / v)) := by
  have := q_quo (P := P) (n := n) (H := H) (dst := dst) (ty := ty) (pos := pos) (after := after) (g := g) (xt := xt) (yt := yt) hx hy (by omega)
  have h3 : u / v ≤ u := Int.ediv_le_self _ hu
  have h4 : 0 ≤ u / v := Int.ediv_nonneg hu (by omega)
  rwa [Int.tdiv_eq_ediv_of_nonneg hu, wrap_i64 (by omega) (by omega)] at this
theorem q_rem64 (hx : evS env x = some (.int k u)) (hy : evS env y = some (.int k v)) (h0 : 0 < v) (hu : 0 ≤ u) : Quiet P n ⟨dst, .binOp .rem xt x y yt, ty, pos, after, g⟩ env H (.int k (u % v)) := by
  have := q_rem (P := P) (n := n) (H := H) (dst := dst) (ty := ty) (pos := pos) (after := after) (g := g) (xt := xt) (yt := yt) hx hy (by omega)
  rwa [Int.tmod_eq_emod_of_nonneg hu] at this
theorem q_eql (hx : evS env x = some (.int k u)) (hy : evS env y = some (.int k v)) : Quiet P n ⟨dst, .binOp .eql xt x y yt, ty, pos, after, g⟩ env H (.bool (decide (u = v))) := by
  intro a w m f se sh
  simp [execOp, evS_sound se hx, evS_sound se hy, eqGuard, binOp, Op.intCmp]
  exact (Bool.beq_eq_decide_eq u v)
theorem q_neq (hx : evS env x = some (.int k u)) (hy : evS env y = some (.int k v)) : Quiet P n ⟨dst, .binOp .neq xt x y yt, ty, pos, after, g⟩ env H (.bool (decide (u ≠ v))) := by
  intro a w m f se sh
  simp [execOp, evS_sound se hx, evS_sound se hy, eqGuard, binOp, Op.intCmp]
  by_cases h : u = v <;> simp [h]
theorem q_lss (hx : evS env x = some (.int k u)) (hy : evS env y = some (.int k v)) : Quiet P n ⟨dst, .binOp .lss xt x y yt, ty, pos, after, g⟩ env H (.bool (decide (u < v))) := by
  intro a w m f se sh
  simp [execOp, evS_sound se hx, evS_sound se hy, eqGuard, binOp, Op.intCmp]
theorem q_leq (hx : evS env x = some (.int k u)) (hy : evS env y = some (.int k v)) : Quiet P n ⟨dst, .binOp .leq xt x y yt, ty, pos, after, g⟩ env H (.bool (decide (u ≤ v))) := by
  intro a w m f se sh
  simp [execOp, evS_sound se hx, evS_sound se hy, eqGuard, binOp, Op.intCmp]
theorem q_gtr (hx : evS env x = some (.int k u)) (hy : evS env y = some (.int k v)) : Quiet P n ⟨dst, .binOp .gtr xt x y yt, ty, pos, after, g⟩ env H (.bool (decide (v < u))) := by
  intro a w m f se sh
  simp [execOp, evS_sound se hx, evS_sound se hy, eqGuard, binOp, Op.intCmp]
theorem q_geq (hx : evS env x = some (.int k u)) (hy : evS env y = some (.int k v)) : Quiet P n ⟨dst, .binOp .geq xt x y yt, ty, pos, after, g⟩ env H (.bool (decide (v ≤ u))) := by
  intro a w m f se sh
  simp [execOp, evS_sound se hx, evS_sound se hy, eqGuard, binOp, Op.intCmp]
/-- text against text -/
theorem q_eql_str {s r : ByteArray} (hx : evS env x = some (.string s)) (hy : evS env y = some (.string r)) : Quiet P n ⟨dst, .binOp .eql xt x y yt, ty, pos, after, g⟩ env H (.bool (s.toList == r.toList)) := by
  intro a w m f se sh
  simp [execOp, evS_sound se hx, evS_sound se hy, eqGuard, binOp, Op.stringOp]
theorem q_neq_str {s r : ByteArray} (hx : evS env x = some (.string s)) (hy : evS env y = some (.string r)) : Quiet P n ⟨dst, .binOp .neq xt x y yt, ty, pos, after, g⟩ env H (.bool (!(s.toList == r.toList))) := by
  intro a w m f se sh
  simp [execOp, evS_sound se hx, evS_sound se hy, eqGuard, binOp, Op.stringOp]
end bin

theorem q_not {xt : TypeId} {x : Operand} {b : Bool} (hx : evS env x = some (.bool b)) : Quiet P n ⟨dst, .unOp .not xt x, ty, pos, after, g⟩ env H (.bool (!b)) := by
  intro a w m f se sh
  simp [execOp, evS_sound se hx, Op.unary]
theorem q_neg {xt : TypeId} {x : Operand} {k : IntKind} {u : Int} (hx : evS env x = some (.int k u)) : Quiet P n ⟨dst, .unOp .neg xt x, ty, pos, after, g⟩ env H (.int k (k.wrap (0 - u))) := by
  intro a w m f se sh
  simp [execOp, evS_sound se hx, Op.unary, Op.intArith]

theorem q_fieldAddr {s k off : Nat} {x : Operand} {t : TypeId} {agg : Bool} {size b o : Nat} [hF : FldC P s k off t agg size]
    (hx : evS env x = some (.pointer (some ⟨b, o, none⟩))) : Quiet P n ⟨dst, .fieldAddr s x k, ty, pos, after, g⟩ env H (.pointer (some ⟨b, o + off, none⟩)) := by
  intro a w m f se sh
  obtain ⟨fs, fd, h1, h2, h3, h4, h5, h6, h7⟩ := hF.get
  cases hu : P.info? fd.type with
  | none => simp [hu] at h5
  | some i =>
    simp only [hu, Option.map_some, Option.some.injEq] at h5
    simp [execOp, evS_sound se hx, Instr.fieldAt, Instr.sureAddr, run_under _ h1, h2, fieldPlace, sizeOf, typeInfo, hu, h5, h6, add_none, h3]

theorem q_fieldAddr0 {s k off : Nat} {x : Operand} {t : TypeId} {agg : Bool} {size b : Nat} [hF : FldC P s k off t agg size]
    (hx : evS env x = some (.pointer (some ⟨b, 0, none⟩))) : Quiet P n ⟨dst, .fieldAddr s x k, ty, pos, after, g⟩ env H (.pointer (some ⟨b, off, none⟩)) := by
  have := q_fieldAddr (P := P) (n := n) (H := H) (dst := dst) (ty := ty) (pos := pos) (after := after) (g := g) (s := s) (k := k) (hF := hF) hx
  simpa using this

theorem q_field {s k off : Nat} {x : Operand} {t : TypeId} {size : Nat} {c : Array Value} {v : Value} [hF : FldC P s k off t false size] [hv : GetA c off v]
    (hx : evS env x = some (.agg c)) : Quiet P n ⟨dst, .field s x k, ty, pos, after, g⟩ env H v := by
  intro a w m f se sh
  obtain ⟨fs, fd, h1, h2, h3, h4, h5, h6, h7⟩ := hF.get
  cases hu : P.underlying fd.type with
  | none => simp [hu] at h7
  | some d =>
    simp only [hu, Option.map_some, Option.some.injEq] at h7
    have hag : (isAgg fd.type).run P w = .ok false w := by
      unfold isAgg
      simp only [Sem.run_bind, run_under _ hu, Result.andThen_ok]
      cases d <;> first | rfl | (simp [isAggD] at h7)
    simp [execOp, evS_sound se hx, Instr.field, run_under _ h1, h2, part, asAgg, hag, h3, hv.get]
theorem q_field_agg {s k off : Nat} {x : Operand} {t : TypeId} {size : Nat} {c : Array Value} [hF : FldC P s k off t true size]
    (hx : evS env x = some (.agg c)) : Quiet P n ⟨dst, .field s x k, ty, pos, after, g⟩ env H (.agg (c.extract off (off + size))) := by
  intro a w m f se sh
  obtain ⟨fs, fd, h1, h2, h3, h4, h5, h6, h7⟩ := hF.get
  cases hi : P.info? fd.type with
  | none => simp [hi] at h5
  | some i =>
  cases hu : P.underlying fd.type with
  | none => simp [hu] at h7
  | some d =>
    simp only [hi, hu, Option.map_some, Option.some.injEq] at h7 h5
    have hag : (isAgg fd.type).run P w = .ok true w := by
      unfold isAgg
      simp only [Sem.run_bind, run_under _ hu, Result.andThen_ok]
      cases d <;> first | rfl | (simp [isAggD] at h7)
    simp [execOp, evS_sound se hx, Instr.field, run_under _ h1, h2, part, asAgg, hag, h3, sizeOf, typeInfo, hi, h5]

theorem q_indexAddr {t e : TypeId} {agg : Bool} {size bytes : Nat} {zero : Value} {x ix : Operand} {k : IntKind} {i : Int} {b o len cap : Nat} [hS : SliceC P t e] [hE : TyC P e agg size bytes zero]
    (hx : evS env x = some (.slice (some ⟨b, o, none⟩) len cap)) (hi : evS env ix = some (.int k i)) (h0 : 0 ≤ i) (h1 : i < len) :
    Quiet P n ⟨dst, .indexAddr t x ix, ty, pos, after, g⟩ env H (.pointer (some ⟨b, o + i.toNat * size, none⟩)) := by
  intro a w m f se sh
  simp [execOp, evS_sound se hx, evS_sound se hi, Instr.indexAt, asIntOf, run_under _ hS.get, h0, h1, run_xsizeOf (h := hE), add_none]
theorem q_indexAddr_nat {t e : TypeId} {agg : Bool} {size bytes : Nat} {zero : Value} {x ix : Operand} {k : IntKind} {i : Nat} {b o len cap : Nat} [hS : SliceC P t e] [hE : TyC P e agg size bytes zero]
    (hx : evS env x = some (.slice (some ⟨b, o, none⟩) len cap)) (hi : evS env ix = some (.int k i)) (h1 : i < len) :
    Quiet P n ⟨dst, .indexAddr t x ix, ty, pos, after, g⟩ env H (.pointer (some ⟨b, o + i * size, none⟩)) := by
  have := q_indexAddr (P := P) (n := n) (H := H) (dst := dst) (ty := ty) (pos := pos) (after := after) (g := g) (t := t) (e := e) hx hi (by omega) (by omega)
  simpa using this
theorem q_indexAddr_arr {t e : TypeId} {agg : Bool} {size bytes : Nat} {zero : Value} {x ix : Operand} {k : IntKind} {i : Int} {b o len : Nat} [hS : ArrC P t len e] [hE : TyC P e agg size bytes zero]
    (hx : evS env x = some (.pointer (some ⟨b, o, none⟩))) (hi : evS env ix = some (.int k i)) (h0 : 0 ≤ i) (h1 : i < len) :
    Quiet P n ⟨dst, .indexAddr t x ix, ty, pos, after, g⟩ env H (.pointer (some ⟨b, o + i.toNat * size, none⟩)) := by
  intro a w m f se sh
  simp [execOp, evS_sound se hx, evS_sound se hi, Instr.indexAt, asIntOf, Instr.sureAddr, run_under _ hS.get, h0, h1, run_xsizeOf (h := hE), add_none]

theorem q_extract {x : Operand} {vs : Array Value} {i : Nat} {v : Value} [hv : GetA vs i v] (hx : evS env x = some (.tuple vs)) :
    Quiet P n ⟨dst, .extract x i, ty, pos, after, g⟩ env H v := by
  intro a w m f se sh
  simp [execOp, evS_sound se hx, Instr.extract, hv.get]

theorem q_len_slice {x : Operand} {t e : TypeId} {p : Option Addr} {len cap : Nat} [hS : SliceC P t e] (hx : evS env x = some (.slice p len cap)) :
    Quiet P n ⟨dst, .call ⟨.builtin .len, #[x], #[t]⟩, ty, pos, after, g⟩ env H (.int .i64 len) := by
  intro a w m f se sh
  simp [execOp, resolve, invoke, builtin, evS_sound se hx, Builtin.len_, run_under _ hS.get, goInt]
theorem q_len_str {x : Operand} {t : TypeId} {s : ByteArray} [hS : StrC P t] (hx : evS env x = some (.string s)) :
    Quiet P n ⟨dst, .call ⟨.builtin .len, #[x], #[t]⟩, ty, pos, after, g⟩ env H (.int .i64 s.size) := by
  intro a w m f se sh
  simp [execOp, resolve, invoke, builtin, evS_sound se hx, Builtin.len_, run_under _ hS.get, goInt]
theorem q_len_map {x : Operand} {t k e : TypeId} {b : Nat} {es : Array MapEntry} {cl : Nat} [hS : MapC P t k e] [hr : RdC H b (.map es cl)] (hx : evS env x = some (.map (some b))) :
    Quiet P n ⟨dst, .call ⟨.builtin .len, #[x], #[t]⟩, ty, pos, after, g⟩ env H (.int .i64 es.size) := by
  intro a w m f se sh
  simp [execOp, resolve, invoke, builtin, evS_sound se hx, Builtin.len_, run_under _ hS.get, goInt, getObj, Sem.run, sh.rd hr.get]
theorem q_max2 {x y : Operand} {ts : Array TypeId} {k : IntKind} {u v : Int} (hx : evS env x = some (.int k u)) (hy : evS env y = some (.int k v)) :
    Quiet P n ⟨dst, .call ⟨.builtin .max, #[x, y], ts⟩, ty, pos, after, g⟩ env H (.int k (max u v)) := by
  intro a w m f se sh
  simp [execOp, resolve, invoke, builtin, evS_sound se hx, evS_sound se hy, Builtin.max_, Builtin.max2]
  split <;> omega
theorem q_min2 {x y : Operand} {ts : Array TypeId} {k : IntKind} {u v : Int} (hx : evS env x = some (.int k u)) (hy : evS env y = some (.int k v)) :
    Quiet P n ⟨dst, .call ⟨.builtin .min, #[x, y], ts⟩, ty, pos, after, g⟩ env H (.int k (min u v)) := by
  intro a w m f se sh
  simp [execOp, resolve, invoke, builtin, evS_sound se hx, evS_sound se hy, Builtin.min_, Builtin.min2]
  split <;> omega

theorem q_arrayAt {t e : TypeId} {x : Operand} {k len cap : Nat} {p : Option Addr} [hA : ArrC P t k e] (hx : evS env x = some (.slice p len cap)) (hl : k ≤ len) :
    Quiet P n ⟨dst, .sliceToArrayPointer t x, ty, pos, after, g⟩ env H (.pointer p) := by
  intro a w m f se sh
  simp [execOp, evS_sound se hx, Instr.arrayAt, run_under _ hA.get, Nat.not_lt.2 hl]

theorem q_conv_int {s d : TypeId} {x : Operand} {j k : IntKind} {u : Int} [hS : IntC P s j] [hD : IntC P d k] (hx : evS env x = some (.int j u)) :
    Quiet P n ⟨dst, .convert s d x, ty, pos, after, g⟩ env H (.int k (k.wrap u)) := by
  intro a w m f se sh
  simp [execOp, evS_sound se hx, convert, run_under _ hS.get, run_under _ hD.get, Conv.intToInt]

end
end Go.SL
