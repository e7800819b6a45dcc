/- tests for nil and of truth values, interface values, maps.Clone; loops, envs. -/
import Derived.Test.YtjnbanjmehkifaaSlMap
namespace Go.SL

class BoolC (P : Program) (t : TypeId) : Prop where
  get : P.underlying t = some .bool
class ExtC (P : Program) (f : FuncId) (e : outParam (Array Value → Sem Value)) : Prop where
  get : ∃ fn, P.funcs[f]? = some fn ∧ fn.body.isNone = true ∧ (fn.name == "runtime.NumGoroutine") = false ∧ Extern.findNext fn = none ∧ Extern.find fn = some e

section
variable {P : Program} {n : Nat} {Q : Post} {env : Env} {H F : List Assn} {dst : Option Tmp} {ty : TypeId} {pos : String} {after : Array Edge} {g : Option (Nat × Bool)}

theorem run_equal_succ {t : TypeId} {x y : Value} {w : World} {b : Bool} (h : ∀ d, (Op.equalIn (d + 1) t x y).run P w = .ok b w) : (Op.equal t x y).run P w = .ok b w := h 9999

theorem q_eql_ptr_nil {xt yt e : TypeId} {x y : Operand} {a : Option Addr} [hP : PtrC P xt e] (hx : evS env x = some (.pointer a)) (hy : evS env y = some (.pointer none)) :
    Quiet P n ⟨dst, .binOp .eql xt x y yt, ty, pos, after, g⟩ env H (.bool a.isNone) := by
  intro aa w m f se sh
  have h : (Op.equal xt (.pointer a) (.pointer none)).run P w = .ok a.isNone w := run_equal_succ fun d => by
    cases a <;> simp [Op.equalIn, run_under _ hP.get]
  simp [execOp, evS_sound se hx, evS_sound se hy, eqGuard, binOp, h]
theorem q_neq_ptr_nil {xt yt e : TypeId} {x y : Operand} {a : Option Addr} [hP : PtrC P xt e] (hx : evS env x = some (.pointer a)) (hy : evS env y = some (.pointer none)) :
    Quiet P n ⟨dst, .binOp .neq xt x y yt, ty, pos, after, g⟩ env H (.bool (!a.isNone)) := by
  intro aa w m f se sh
  have h : (Op.equal xt (.pointer a) (.pointer none)).run P w = .ok a.isNone w := run_equal_succ fun d => by
    cases a <;> simp [Op.equalIn, run_under _ hP.get]
  simp [execOp, evS_sound se hx, evS_sound se hy, eqGuard, binOp, h]
theorem q_eql_map_nil {xt yt k e : TypeId} {x y : Operand} {a : Option Nat} [hP : MapC P xt k e] (hx : evS env x = some (.map a)) (hy : evS env y = some (.map none)) :
    Quiet P n ⟨dst, .binOp .eql xt x y yt, ty, pos, after, g⟩ env H (.bool a.isNone) := by
  intro aa w m f se sh
  have h : (Op.equal xt (.map a) (.map none)).run P w = .ok a.isNone w := run_equal_succ fun d => by
    cases a <;> simp [Op.equalIn, run_under _ hP.get]
  simp [execOp, evS_sound se hx, evS_sound se hy, eqGuard, binOp, h]
theorem q_eql_slice_nil {xt yt e : TypeId} {x y : Operand} {a : Option Addr} {l c : Nat} [hP : SliceC P xt e] (hx : evS env x = some (.slice a l c)) (hy : evS env y = some (.slice none 0 0)) :
    Quiet P n ⟨dst, .binOp .eql xt x y yt, ty, pos, after, g⟩ env H (.bool a.isNone) := by
  intro aa w m f se sh
  have h : (Op.equal xt (.slice a l c) (.slice none 0 0)).run P w = .ok a.isNone w := run_equal_succ fun d => by
    cases a <;> simp [Op.equalIn, run_under _ hP.get]
  simp [execOp, evS_sound se hx, evS_sound se hy, eqGuard, binOp, h]
theorem q_eql_bool {xt yt : TypeId} {x y : Operand} {a b : Bool} [hP : BoolC P xt] (hx : evS env x = some (.bool a)) (hy : evS env y = some (.bool b)) :
    Quiet P n ⟨dst, .binOp .eql xt x y yt, ty, pos, after, g⟩ env H (.bool (a == b)) := by
  intro aa w m f se sh
  have h : (Op.equal xt (.bool a) (.bool b)).run P w = .ok (a == b) w := run_equal_succ fun d => by simp [Op.equalIn, run_under _ hP.get]
  simp [execOp, evS_sound se hx, evS_sound se hy, eqGuard, binOp, h]
theorem q_neq_bool {xt yt : TypeId} {x y : Operand} {a b : Bool} [hP : BoolC P xt] (hx : evS env x = some (.bool a)) (hy : evS env y = some (.bool b)) :
    Quiet P n ⟨dst, .binOp .neq xt x y yt, ty, pos, after, g⟩ env H (.bool (!(a == b))) := by
  intro aa w m f se sh
  have h : (Op.equal xt (.bool a) (.bool b)).run P w = .ok (a == b) w := run_equal_succ fun d => by simp [Op.equalIn, run_under _ hP.get]
  simp [execOp, evS_sound se hx, evS_sound se hy, eqGuard, binOp, h]

theorem q_makeInterface_map {t k e : TypeId} {x : Operand} {v : Value} [hM : MapC P t k e] (hx : evS env x = some v) : Quiet P n ⟨dst, .makeInterface t x, ty, pos, after, g⟩ env H (.iface t v) := by
  intro a w m f se sh
  simp [execOp, evS_sound se hx, Instr.makeInterface, run_under _ hM.get]
theorem q_typeAssert_map {s t k e : TypeId} {x : Operand} {v : Value} [hM : MapC P t k e] (hx : evS env x = some (.iface t v)) : Quiet P n ⟨dst, .typeAssert x s t false, ty, pos, after, g⟩ env H v := by
  intro a w m f se sh
  simp [execOp, evS_sound se hx, Instr.typeAssert, run_under _ hM.get]

/-- maps.clone -/
theorem sop_mapsClone {α : Type} {enc : α → Value} {l : List (Int × α)} {t : TypeId} {b : Nat} {f : FuncId} {x : Operand} {ts : Array TypeId} {K : Value → List Assn → Prop} [hE : ExtC P f Extern.MapsClone.clone] [hr : MapRdC H b enc l]
    (hx : evS env x = some (.iface t (.map (some b)))) (hk : ∀ b', K (.iface t (.map (some b'))) (mapA enc b' l :: H)) : SOp P n ⟨dst, .call ⟨.value (.func f), #[x], ts⟩, ty, pos, after, g⟩ Q env H K := by
  intro a w m fr se sh
  obtain ⟨fn, h1, h2, h3, h4, h5⟩ := hE.get
  obtain ⟨es, cl, he, hb⟩ := sh.mapRd hr.get
  have hrun : (execOp a.eval ⟨dst, .call ⟨.value (.func f), #[x], ts⟩, ty, pos, after, g⟩).run P w = .ok (.value (.iface t (.map (some w.heap.size)))) { w with heap := w.heap.push (.map es cl) } := by
    have hcl : (Extern.MapsClone.clone #[.iface t (.map (some b))]).run P w = .ok (.iface t (.map (some w.heap.size))) { w with heap := w.heap.push (.map es cl) } := by
      have : Extern.MapsClone.clone #[.iface t (.map (some b))] = (getObj b >>= fun o => match o with
        | .map entries clock => do pure (.iface t (.map (some (← newObj (.map entries clock)))))
        | _ => stuck "maps.clone: a map expected") := rfl
      rw [this, Sem.run_bind, run_getObj (P := P) hb]
      rfl
    have hcf : (callFunc f #[.iface t (.map (some b))]).run P w = .ok (.value (.iface t (.map (some w.heap.size)))) { w with heap := w.heap.push (.map es cl) } := by
      simp only [callFunc, Sem.run_bind, run_program, Result.andThen_ok, h1, h2, h3, h4, h5, Bool.false_eq_true, if_false, if_true, run_mark, hcl, Sem.run_pure]
    have hargs : #[x].map a.eval = #[.iface t (.map (some b))] := by simp [evS_sound se hx]
    have hf : a.eval (.func f) = .func (.func f) #[] #[] := rfl
    simp only [execOp, resolve, hargs, hf, Deferred.ofValue, Sem.run_bind, Sem.run_pure, Result.andThen_ok, invoke]
    simpa using hcf
  unfold OpRes
  rw [hrun]
  refine ⟨_, m, hk _, (sh.new rfl).ent ?_, Hp.le_refl m, ⟨rfl, rfl, rfl⟩⟩
  rintro h m ⟨p, q, hd, rfl, hp, hl⟩
  exact ⟨_, Hp.le_refl _, p, q, hd, rfl, ⟨es, cl, he, hp⟩, hl⟩

theorem ent_own_nil' {H : List Assn} {sz : Nat} {xs : List Value} (h : xs = []) : Ent H (ownS sz (.slice none 0 0) xs :: H) := by subst h; exact ent_own_nil
theorem q_indexAddr_nat0 {t e : TypeId} {agg : Bool} {size bytes : Nat} {zero : Value} {x ix : Operand} {k : IntKind} {i : Nat} {b len cap : Nat} [hS : SliceC P t e] [hE : TyC P e agg size bytes zero]
    (hx : evS env x = some (.slice (some ⟨b, 0, none⟩) len cap)) (hi : evS env ix = some (.int k i)) (h1 : i < len) :
    Quiet P n ⟨dst, .indexAddr t x ix, ty, pos, after, g⟩ env H (.pointer (some ⟨b, i * size, none⟩)) := by
  have := q_indexAddr_nat (P := P) (n := n) (H := H) (dst := dst) (ty := ty) (pos := pos) (after := after) (g := g) (t := t) (e := e) hx hi h1
  simpa using this
/-- a whole aggregate into a variable of its own -/
theorem e_store_all {t : TypeId} {x y : Operand} {b size bytes : Nat} {zero : Value} {c : Array Value} {l : List Value} {e : TypeId} {H' : List Assn} [hT : TyC P t true size bytes zero]
    [hr : RdC H b (.cells c e (0, 0))] [hw : WrC H b (.cells l.toArray e (0, 0)) H'] (hx : evS env x = some (.pointer (some ⟨b, 0, none⟩))) (hy : evS env y = some (.agg l.toArray)) (hl : l.length = size) (hc : c.size = size) (h1 : ∀ v ∈ l, v.oneCell' = true) :
    Eff P n ⟨dst, .store t x y, ty, pos, after, g⟩ env H undef H' := by
  have hp : putAt c 0 l = l.toArray := by
    have := putAt_list l c.toList [] [] (by simpa using hc.trans hl.symm)
    simpa using this
  haveI : WrC H b (.cells (putAt c 0 l.toArray.toList) e (0, 0)) H' := by
    show WrC H b (.cells (putAt c 0 l) e (0, 0)) H'
    rw [hp]; exact hw
  exact e_store_agg (hT := hT) (hr := hr) hx hy (by simpa using hl) (by simpa using h1) (by omega)
theorem seg_tail {u : Value} {l : List Value} : Seg (u :: l).toArray 1 l := by
  have := Seg.of_append (p := [u]) (l := l) (r := [])
  simpa using this
theorem one_cons {u : Value} {l : List Value} (hu : u.oneCell' = true) (h : ∀ v ∈ l, v.oneCell' = true) : ∀ v ∈ u :: l, v.oneCell' = true := by
  intro v hv
  rcases List.mem_cons.1 hv with rfl | hv
  · exact hu
  · exact h v hv
/-- slots that are known at both places -/
def Sub (E env : Env) : Prop := ∀ t v, E.get t = some v → env.get t = some v
theorem sub_nil : Sub [] env := fun t v h => by simp [Env.get] at h
theorem sub_cons {E : Env} {k : Nat} {u : Value} (h : env.get k = some u) (hs : Sub E env) : Sub ((k, u) :: E) env := by
  intro t v ht
  simp only [Env.get] at ht
  cases hb : Nat.beq k t with
  | true =>
    have := Nat.eq_of_beq_eq_true hb
    subst this
    simp only [hb, cond_true] at ht
    exact h.trans ht
  | false =>
    simp only [hb, cond_false] at ht
    exact hs t v ht

/-- a loop whose body is left in its first round -/
theorem xW_loop0 {c : Code} (h : xW P n c (thenS (fun _ _ => False) Q) env H) : xW P n (.loop c) Q env H :=
  xW_loop (ι := Unit) (fun _ => env) (fun _ => H) (fun _ => 0) () (fun _ _ h => h) (Ent.refl H) fun _ => xW_mono h fun e env H q => by cases e <;> first | exact q | exact q.elim

theorem xW_loopI {ι : Type} {c : Code} (E : ι → Env) (G : ι → List Assn) (μ : ι → Nat) (i0 : ι) (he : Sub (E i0) env) (hg : Ent H (G i0))
    (round : ∀ i, xW P n c (thenS (fun env' H' => ∃ j, Sub (E j) env' ∧ Ent H' (G j) ∧ μ j < μ i) Q) (E i) (G i)) : xW P n (.loop c) Q env H :=
  xW_loop E G μ i0 he hg round
end
end Go.SL
