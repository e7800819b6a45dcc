/- The walk's steps with their proofs filled in by themselves. -/
import Derived.Test.YtjnbanjmehkifaaSlRo
namespace Go.SL
set_option linter.unusedVariables false
theorem LocG.imm_shape {T : List Assn → Prop} {H : List Assn} (hT : LocG T) {v : Value} {sz k : Nat} {xs : List Value} [hp : ImmC H v sz xs] (hs : 0 < sz) (hl : xs.length = k * sz) (h : ∀ p c, v = .slice p k c → T H) : T H := by
  refine hT.step H (fun H' => (∃ p c, v = .slice p k c) ∧ H' = H) ?_ (by rintro _ ⟨⟨p, c, e⟩, rfl⟩; exact h p c e)
  rintro m f w ⟨x, hx, r⟩
  refine ⟨H, m, ⟨?_, rfl⟩, ⟨x, hx, r⟩, Hp.le_refl m⟩
  obtain ⟨k1, _, hi⟩ := hp.get x m hx
  rcases hi with ⟨rfl, rfl⟩ | ⟨b, e, k', cap, rest, rfl, hl2, _⟩
  · have : k = 0 := by
      rcases Nat.eq_zero_or_pos k with h | h
      · exact h
      · exact absurd (Nat.mul_pos h hs) (by simp at hl; omega)
    subst this
    exact ⟨none, 0, rfl⟩
  · have : k = k' := Nat.eq_of_mul_eq_mul_right hs (hl.symm.trans hl2)
    subst this
    exact ⟨_, cap, rfl⟩
theorem q_conv_b2s' {P : Program} {n : Nat} {env : Env} {H : List Assn} {dst : Option Tmp} {ty : TypeId} {pos : String} {after : Array Edge} {g : Option (Nat × Bool)} {t d : TypeId} {e ee : TypeId} {x : Operand} {b o cap k : Nat} {c : Array Value} {fr : Nat × Nat} {s : List UInt8} [hS : SliceC P t e] [hI : IntC P e .u8] [hD : StrC P d] [hr : RdC H b (.cells c ee fr)]
    (hx : evS env x = some (.slice (some ⟨b, o, none⟩) k cap)) (hk : s.length = k) (hs : Seg c o (bv s)) : Quiet P n ⟨dst, .convert t d x, ty, pos, after, g⟩ env H (.string ⟨s.toArray⟩) := by
  subst hk
  exact q_conv_b2s hx hs
instance {b : UInt8} : OneC (u8v b) := ⟨rfl⟩
/-- rows of values of one cell each -/
class AllOne (l : List Value) : Prop where
  get : ∀ v ∈ l, v.oneCell' = true
instance : AllOne [] := ⟨by simp⟩
instance {v : Value} {l : List Value} [h1 : OneC v] [h2 : AllOne l] : AllOne (v :: l) := ⟨one_cons (by have := h1.one; exact this) h2.get⟩
/-! what is there, found by its family -/
class HasC {α : Type} (mk : α → Assn) (H : List Assn) (x : outParam α) (F : outParam (List Assn)) : Prop where
  get : ∀ h m, sepL H h m → sepL (mk x :: F) h m
instance (priority := 1100) HasC.head {α : Type} {mk : α → Assn} {x : α} {H : List Assn} : HasC mk (mk x :: H) x H := ⟨fun _ _ h => h⟩
instance (priority := 900) HasC.tail {α : Type} {mk : α → Assn} {x : α} {B : Assn} {H F : List Assn} [h : HasC mk H x F] : HasC mk (B :: H) x (B :: F) := ⟨by
  rintro x m ⟨h1, h2, hd, rfl, hb, hl⟩
  exact sepL_swap ⟨h1, h2, hd, rfl, hb, h.get h2 m hl⟩⟩
theorem HasC.pick {α : Type} {mk : α → Assn} {x : α} {H F : List Assn} (h : HasC mk H x F) : PickC H (mk x) F := ⟨h.get⟩
class PtC' (H : List Assn) (b : Nat) (o : outParam Obj) (F : outParam (List Assn)) : Prop where
  get : ∀ h m, sepL H h m → sepL (pt b o :: F) h m
instance (priority := 1100) PtC'.head {b : Nat} {o : Obj} {H : List Assn} : PtC' (pt b o :: H) b o H := ⟨fun _ _ h => h⟩
instance (priority := 900) PtC'.tail {b : Nat} {o : Obj} {B : Assn} {H F : List Assn} [h : PtC' H b o F] : PtC' (B :: H) b o (B :: F) := ⟨by
  rintro x m ⟨h1, h2, hd, rfl, hb, hl⟩
  exact sepL_swap ⟨h1, h2, hd, rfl, hb, h.get h2 m hl⟩⟩
theorem PtC'.pick {b : Nat} {o : Obj} {H F : List Assn} (h : PtC' H b o F) : PickC H (pt b o) F := ⟨h.get⟩
class BytesC (c : Array Value) (s : outParam (List UInt8)) : Prop where
  get : c = (bv s).toArray
instance {s : List UInt8} : BytesC (bv s).toArray s := ⟨rfl⟩
section
variable {P : Program} {n : Nat} {Q : Post} {env : Env} {H : List Assn} {ops : Array Oper} {rest : List Oper} {o : Oper} {v : Value}
theorem wqa (h : Quiet P n o env H v := by first
  | exact q_move rfl | exact q_assign rfl | exact q_load rfl | exact q_fieldAddr0 rfl | exact q_nilCheck rfl | exact q_extract rfl | exact q_fieldAddr rfl | exact q_field rfl
  | exact q_eql rfl rfl | exact q_neq rfl rfl | exact q_lss rfl rfl | exact q_leq rfl rfl | exact q_gtr rfl rfl | exact q_geq rfl rfl
  | exact q_len_slice rfl | exact q_len_str rfl | exact q_not rfl | exact q_add64 rfl rfl rfl (by omega) | exact q_sub64 rfl rfl rfl (by omega) | exact q_indexAddr_nat0 rfl rfl (by omega) | exact q_indexAddr_nat rfl rfl (by omega) | exact q_indexAddr rfl rfl (by omega) (by omega)
  | exact q_pick_true rfl (by assumption) rfl | exact q_pick_false rfl (by assumption) rfl | exact q_pick_bool rfl rfl rfl | exact q_pick rfl rfl rfl | exact q_eql_str rfl rfl | exact q_neq_str rfl rfl | exact q_nilCheck_func rfl | exact q_max2 rfl rfl | exact q_min2 rfl rfl | exact q_len_map rfl
  | exact q_conv_int rfl | exact q_quo64 rfl rfl (by omega) (by omega) (by omega) | exact q_rem64 rfl rfl (by omega) (by omega) | exact q_mul64 rfl rfl rfl (by omega) | exact q_rem rfl rfl (by decide) | exact q_lookup rfl rfl | exact q_lookup_ok rfl rfl | exact q_len_mapA rfl | exact q_slice_arr rfl | exact q_build rfl | exact q_add rfl rfl | exact q_sub rfl rfl | exact q_neg rfl
  | exact q_eql_ptr_nil rfl rfl | exact q_neq_ptr_nil rfl rfl | exact q_eql_map_nil rfl rfl | exact q_eql_slice_nil rfl rfl | exact q_eql_bool rfl rfl | exact q_neq_bool rfl rfl | exact q_makeInterface_map rfl | exact q_typeAssert_map rfl | exact q_conv_nil2s rfl | exact q_conv_b2s' rfl (by first | assumption | simp) (Seg.whole _)) : Quiet P n o env H v := h
theorem wea {H' : List Assn} (h : Eff P n o env H v H' := by first
  | exact e_store rfl rfl rfl | exact e_store rfl rfl (by assumption) | exact e_store_all rfl rfl rfl (by simp [Value.cells]) AllOne.get) : Eff P n o env H v H' := h
theorem wna {v : Nat → Value} {H' : Nat → List Assn} (h : New P n o env H v H' := by first
  | exact n_alloc_agg | exact n_alloc | exact n_box_agg rfl | exact n_box rfl | exact n_buildSlice0 | exact n_buildSlice1s rfl) : New P n o env H v H' := h
section
variable {op : Op} {ty : TypeId} {pos : String} {after : Array Edge} {d j e : Tmp} {b : Bool} {i : Nat} {r : List (Kd × Nat)} {pend : List (Nat × Value)}
theorem Re {H' : List Assn} (ho : ops[i]? = some ⟨some d, op, ty, pos, after, none⟩) (he : Eff P n ⟨some d, op, ty, pos, after, none⟩ env H v H')
    (hp : pendOk P n ops ((d, v) :: env) H' (stillE after pend)) (h : RunP P n ops Q r (stillE after pend) ((d, v) :: env) H') : RunP P n ops Q ((.e, i) :: r) pend env H := run_e' _ ho rfl (sop_eff he ⟨hp, h⟩)
theorem Rg {H' : List Assn} (ho : ops[i]? = some ⟨none, op, ty, pos, after, none⟩) (he : Eff P n ⟨none, op, ty, pos, after, none⟩ env H v H')
    (hp : pendOk P n ops env H' (stillE after pend)) (h : RunP P n ops Q r (stillE after pend) env H') : RunP P n ops Q ((.e, i) :: r) pend env H := run_e' _ ho rfl (sop_eff he ⟨hp, h⟩)
theorem Rn {v : Nat → Value} {H' : Nat → List Assn} (ho : ops[i]? = some ⟨some d, op, ty, pos, after, none⟩) (he : New P n ⟨some d, op, ty, pos, after, none⟩ env H v H')
    (hp : ∀ b, pendOk P n ops ((d, v b) :: env) (H' b) (stillE after pend)) (h : ∀ b, RunP P n ops Q r (stillE after pend) ((d, v b) :: env) (H' b)) : RunP P n ops Q ((.e, i) :: r) pend env H := run_e' _ ho rfl (sop_new he fun b => ⟨hp b, h b⟩)
/-- what is owed is read again -/
theorem wpa {l : List (Nat × Value)} (h : pendOk P n ops env H l := by (repeat' (first | exact trivial | (refine pend_cons rfl rfl wqa ?_) | (refine pend_cons_y rfl rfl rfl (by assumption) wqa ?_)))) : pendOk P n ops env H l := h
theorem Ren {dd : Option Tmp} (ho : ops[i]? = some ⟨dd, op, ty, pos, after, some (j, true)⟩) (hj : dstOf ops j = some e) (hb : env.get e = some (.bool b)) (hbw : b = false) (h : RunP P n ops Q r pend (putE env dd undef) H) : RunP P n ops Q ((.e, i) :: r) pend env H := run_en ho rfl hj hb (by simp [hbw]) h
theorem Ren' {dd : Option Tmp} (ho : ops[i]? = some ⟨dd, op, ty, pos, after, some (j, false)⟩) (hj : dstOf ops j = some e) (hb : env.get e = some (.bool b)) (hbw : b = true) (h : RunP P n ops Q r pend (putE env dd undef) H) : RunP P n ops Q ((.e, i) :: r) pend env H := run_en ho rfl hj hb (by simp [hbw]) h
end
/-! the ends of a part -/
section
variable {K : Env → List Assn → Prop} {id k : Nat} {c : List PanicEntry}
theorem wtn (h : K env H) : thenS K Q .normal env H := h
theorem wtr (h : Q .ret env H) : thenS K Q .ret env H := h
theorem wtx (h : Q (.exit k) env H) : thenS K Q (.exit k) env H := h
theorem wtg (h : Q (.goto k) env H) : thenS K Q (.goto k) env H := h
theorem wbn (h : Q .normal env H) : inBlockS id Q .normal env H := h
theorem wbr (h : Q .ret env H) : inBlockS id Q .ret env H := h
theorem wbx (h : Q .normal env H) : inBlockS id Q (.exit id) env H := by simpa [inBlockS] using h
theorem wbk (hk : Nat.beq k id = false) (h : Q (.exit k) env H) : inBlockS id Q (.exit k) env H := by
  have : k ≠ id := fun e => by subst e; rw [Nat.beq_refl] at hk; cases hk
  simpa [inBlockS, this] using h
theorem wbg (h : Q (.goto k) env H) : inBlockS id Q (.goto k) env H := h
theorem wgn (h : Q .normal env H) : noGotoS Q .normal env H := h
theorem wgr (h : Q .ret env H) : noGotoS Q .ret env H := h
theorem wgx (h : Q (.exit k) env H) : noGotoS Q (.exit k) env H := h
/-! tests -/
variable {x y : Code} {cc : Operand}
theorem wcd {p : Prop} {ip : Decidable p} (hc : evS env cc = some (.bool (@decide p ip))) (hx : p → xW P n x Q env H) (hy : ¬ p → xW P n y Q env H) : xW P n (.cond cc x y) Q env H :=
  xW_cond hc (fun h => hx (of_decide_eq_true h)) (fun h => hy (of_decide_eq_false h))
theorem wcn {p : Prop} {ip : Decidable p} (hc : evS env cc = some (.bool (!(@decide p ip)))) (hx : ¬ p → xW P n x Q env H) (hy : p → xW P n y Q env H) : xW P n (.cond cc x y) Q env H :=
  xW_cond hc (fun h => hx (by simpa using h)) (fun h => hy (by simpa using h))
theorem wcdt {p : Prop} {ip : Decidable p} (hc : evS env cc = some (.bool (@decide p ip))) (hp : p) (hx : xW P n x Q env H) : xW P n (.cond cc x y) Q env H := wcd hc (fun _ => hx) (fun h => absurd hp h)
theorem wcdf {p : Prop} {ip : Decidable p} (hc : evS env cc = some (.bool (@decide p ip))) (hp : ¬ p) (hx : xW P n y Q env H) : xW P n (.cond cc x y) Q env H := wcd hc (fun h => absurd h hp) (fun _ => hx)
theorem wcnt {p : Prop} {ip : Decidable p} (hc : evS env cc = some (.bool (!(@decide p ip)))) (hp : ¬ p) (hx : xW P n x Q env H) : xW P n (.cond cc x y) Q env H := wcn hc (fun _ => hx) (fun h => absurd h hp)
theorem wcnf {p : Prop} {ip : Decidable p} (hc : evS env cc = some (.bool (!(@decide p ip)))) (hp : p) (hx : xW P n y Q env H) : xW P n (.cond cc x y) Q env H := wcn hc (fun h => absurd hp h) (fun _ => hx)
end
/-! calls whose contract is found by itself -/
class DetC (P : Program) (f : FuncId) (vs : List Value) (H : List Assn) (side : outParam Prop) (V : outParam Value) (L : outParam (List Assn)) : Prop where
  get : side → Does P f vs.toArray H (Ret fun v H' => v = V ∧ H' = L)
class MakC (P : Program) (f : FuncId) (vs : List Value) (H : List Assn) (side : outParam Prop) (V : outParam (Nat → Value)) (L : outParam (Nat → List Assn)) : Prop where
  get : side → Does P f vs.toArray H (Ret fun v H' => ∃ b, v = V b ∧ H' = L b)
section
variable {f : FuncId} {vs : List Value} {side : Prop} {V : Value} {F : List Assn}
theorem Does.under {L0 : List Assn} {R R' : Value → List Assn → Prop} (ht : TakeC H L0 F) (h : Does P f vs.toArray L0 (Ret R)) (hR : ∀ v H', R v H' → R' v (H' ++ F)) : Does P f vs.toArray H (Ret R') := by
  intro w m fr sh
  refine Calls.mono (h.frame F w m fr (sh.ent (Ent.take ht))) ?_
  rintro e w' ⟨_, m', ⟨H0, rfl, hR0⟩, sh', hm, hst⟩
  cases e with
  | returned v => exact ⟨H0 ++ F, m', hR v H0 hR0, sh', hm, hst⟩
  | panicked c => exact hR0.elim
  | outgrown => exact hR0.elim
theorem DetC.of0 (h : side → Does P f vs.toArray [] (Ret fun v H' => v = V ∧ H' = [])) : DetC P f vs H side V H :=
  ⟨fun hs => Does.under (L0 := []) (F := H) ⟨fun _ _ h => h⟩ (h hs) (by rintro v H' ⟨rfl, rfl⟩; exact ⟨rfl, rfl⟩)⟩
theorem DetC.of1 {A B : Assn} (hp : PickC H A F) (h : side → Does P f vs.toArray [A] (Ret fun v H' => v = V ∧ H' = [B])) : DetC P f vs H side V (B :: F) :=
  ⟨fun hs => Does.under (F := F) inferInstance (h hs) (by rintro v H' ⟨rfl, rfl⟩; exact ⟨rfl, rfl⟩)⟩
theorem DetC.of10 {A : Assn} (hp : PickC H A F) (h : side → Does P f vs.toArray [A] (Ret fun v H' => v = V ∧ H' = [])) : DetC P f vs H side V F :=
  ⟨fun hs => Does.under (F := F) inferInstance (h hs) (by rintro v H' ⟨rfl, rfl⟩; exact ⟨rfl, rfl⟩)⟩
theorem DetC.of2 {A A2 B B2 : Assn} {F2 : List Assn} (hp : PickC H A F) (hp2 : PickC F A2 F2) (h : side → Does P f vs.toArray [A, A2] (Ret fun v H' => v = V ∧ H' = [B, B2])) : DetC P f vs H side V (B :: B2 :: F2) :=
  ⟨fun hs => Does.under (F := F2) inferInstance (h hs) (by rintro v H' ⟨rfl, rfl⟩; exact ⟨rfl, rfl⟩)⟩
theorem DetC.of3 {A A2 A3 B B2 B3 : Assn} {F2 F3 : List Assn} (hp : PickC H A F) (hp2 : PickC F A2 F2) (hp3 : PickC F2 A3 F3) (h : side → Does P f vs.toArray [A, A2, A3] (Ret fun v H' => v = V ∧ H' = [B, B2, B3])) : DetC P f vs H side V (B :: B2 :: B3 :: F3) :=
  ⟨fun hs => Does.under (F := F3) inferInstance (h hs) (by rintro v H' ⟨rfl, rfl⟩; exact ⟨rfl, rfl⟩)⟩
theorem MakC.of0 {V : Nat → Value} {B : Nat → Assn} (h : side → Does P f vs.toArray [] (Ret fun v H' => ∃ b, v = V b ∧ H' = [B b])) : MakC P f vs H side V (fun b => B b :: H) :=
  ⟨fun hs => Does.under (L0 := []) (F := H) ⟨fun _ _ h => h⟩ (h hs) (by rintro v H' ⟨b, rfl, rfl⟩; exact ⟨b, rfl, rfl⟩)⟩
theorem MakC.of1 {V : Nat → Value} {A : Assn} {B B2 : Nat → Assn} (hp : PickC H A F) (h : side → Does P f vs.toArray [A] (Ret fun v H' => ∃ b, v = V b ∧ H' = [B b, B2 b])) : MakC P f vs H side V (fun b => B b :: B2 b :: F) :=
  ⟨fun hs => Does.under (F := F) inferInstance (h hs) (by rintro v H' ⟨b, rfl, rfl⟩; exact ⟨b, rfl, rfl⟩)⟩
theorem MakC.of2 {V : Nat → Value} {A A2 : Assn} {B B2 B3 : Nat → Assn} {F2 : List Assn} (hp : PickC H A F) (hp2 : PickC F A2 F2) (h : side → Does P f vs.toArray [A, A2] (Ret fun v H' => ∃ b, v = V b ∧ H' = [B b, B2 b, B3 b])) : MakC P f vs H side V (fun b => B b :: B2 b :: B3 b :: F2) :=
  ⟨fun hs => Does.under (F := F2) inferInstance (h hs) (by rintro v H' ⟨b, rfl, rfl⟩; exact ⟨b, rfl, rfl⟩)⟩
/-- what a contract asks beside -/
theorem wsa {p : Prop} (h : p := by first | exact trivial | assumption | omega | ((repeat' refine ⟨?_, ?_⟩) <;> first | exact trivial | assumption | omega | (simp; done) | (simp; omega))) : p := h
theorem sop_det {xs : List Operand} {ts : Array TypeId} {L : List Assn} {K : Value → List Assn → Prop} {dst : Option Tmp} {ty : TypeId} {pos : String} {after : Array Edge} {g : Option (Nat × Bool)} [hF : FnC P f] [hd : DetC P f vs H side V L]
    (hx : evL env xs = some vs) (hs : side) (hk : K V L) : SOp P n ⟨dst, .call ⟨.value (.func f), xs.toArray, ts⟩, ty, pos, after, g⟩ Q env H K :=
  sop_call (ht := ⟨fun h m hs => by rw [List.append_nil]; exact hs⟩) (F := []) hx (hd.get hs) (by rintro v H' ⟨rfl, rfl⟩; rw [List.append_nil]; exact hk) (fun _ _ h => h.elim) (fun _ h => h)
theorem sop_mak {xs : List Operand} {ts : Array TypeId} {V : Nat → Value} {L : Nat → List Assn} {K : Value → List Assn → Prop} {dst : Option Tmp} {ty : TypeId} {pos : String} {after : Array Edge} {g : Option (Nat × Bool)} [hF : FnC P f] [hd : MakC P f vs H side V L]
    (hx : evL env xs = some vs) (hs : side) (hk : ∀ b, K (V b) (L b)) : SOp P n ⟨dst, .call ⟨.value (.func f), xs.toArray, ts⟩, ty, pos, after, g⟩ Q env H K :=
  sop_call (ht := ⟨fun h m hs => by rw [List.append_nil]; exact hs⟩) (F := []) hx (hd.get hs) (by rintro v H' ⟨b, rfl, rfl⟩; rw [List.append_nil]; exact hk b) (fun _ _ h => h.elim) (fun _ h => h)
variable {ty : TypeId} {pos : String} {after : Array Edge} {d : Tmp} {xs : List Operand} {ts : Array TypeId} {L : List Assn} {i : Nat} {r : List (Kd × Nat)} {pend : List (Nat × Value)}
theorem Lc [hF : FnC P f] [hc : DetC P f vs H side V L] (hx : evL env xs = some vs) (hs : side) (hd : Nat.blt d n = true) (h : xL P n ops rest Q ((d, V) :: env) L) :
    xL P n ops (⟨some d, .call ⟨.value (.func f), xs.toArray, ts⟩, ty, pos, after, none⟩ :: rest) Q env H := xL_op rfl hd (sop_det hx hs h)
theorem Lc0 [hF : FnC P f] [hc : DetC P f vs H side V L] (hx : evL env xs = some vs) (hs : side) (h : xL P n ops rest Q env L) :
    xL P n ops (⟨none, .call ⟨.value (.func f), xs.toArray, ts⟩, ty, pos, after, none⟩ :: rest) Q env H := xL_op rfl rfl (sop_det hx hs h)
theorem Lm {V : Nat → Value} {L : Nat → List Assn} [hF : FnC P f] [hc : MakC P f vs H side V L] (hx : evL env xs = some vs) (hs : side) (hd : Nat.blt d n = true) (h : ∀ b, xL P n ops rest Q ((d, V b) :: env) (L b)) :
    xL P n ops (⟨some d, .call ⟨.value (.func f), xs.toArray, ts⟩, ty, pos, after, none⟩ :: rest) Q env H := xL_op rfl hd (sop_mak hx hs h)
theorem Rc [hF : FnC P f] [hc : DetC P f vs H side V L] (ho : ops[i]? = some ⟨some d, .call ⟨.value (.func f), xs.toArray, ts⟩, ty, pos, after, none⟩) (hx : evL env xs = some vs) (hs : side)
    (hp : pendOk P n ops ((d, V) :: env) L (stillE after pend)) (h : RunP P n ops Q r (stillE after pend) ((d, V) :: env) L) : RunP P n ops Q ((.e, i) :: r) pend env H := run_e' _ ho rfl (sop_det hx hs ⟨hp, h⟩)
theorem Rc0 [hF : FnC P f] [hc : DetC P f vs H side V L] (ho : ops[i]? = some ⟨none, .call ⟨.value (.func f), xs.toArray, ts⟩, ty, pos, after, none⟩) (hx : evL env xs = some vs) (hs : side)
    (hp : pendOk P n ops env L (stillE after pend)) (h : RunP P n ops Q r (stillE after pend) env L) : RunP P n ops Q ((.e, i) :: r) pend env H := run_e' _ ho rfl (sop_det hx hs ⟨hp, h⟩)
theorem Rm {V : Nat → Value} {L : Nat → List Assn} [hF : FnC P f] [hc : MakC P f vs H side V L] (ho : ops[i]? = some ⟨some d, .call ⟨.value (.func f), xs.toArray, ts⟩, ty, pos, after, none⟩) (hx : evL env xs = some vs) (hs : side)
    (hp : ∀ b, pendOk P n ops ((d, V b) :: env) (L b) (stillE after pend)) (h : ∀ b, RunP P n ops Q r (stillE after pend) ((d, V b) :: env) (L b)) : RunP P n ops Q ((.e, i) :: r) pend env H := run_e' _ ho rfl (sop_mak hx hs fun b => ⟨hp b, h b⟩)
theorem Ryc {j e : Tmp} {b w : Bool} [hF : FnC P f] [hc : DetC P f vs H side V L] (ho : ops[i]? = some ⟨some d, .call ⟨.value (.func f), xs.toArray, ts⟩, ty, pos, after, some (j, w)⟩) (hx : evL env xs = some vs) (hj : dstOf ops j = some e) (hb : env.get e = some (.bool b)) (hbw : b = w)
    (hs : side) (hp : pendOk P n ops ((d, V) :: env) L (stillE after pend)) (h : RunP P n ops Q r (stillE after pend) ((d, V) :: env) L) : RunP P n ops Q ((.e, i) :: r) pend env H :=
  run_ey' _ ho hj hb hbw rfl (sop_det hx hs ⟨hp, h⟩)
theorem Rym {j e : Tmp} {b w : Bool} {V : Nat → Value} {L : Nat → List Assn} [hF : FnC P f] [hc : MakC P f vs H side V L] (ho : ops[i]? = some ⟨some d, .call ⟨.value (.func f), xs.toArray, ts⟩, ty, pos, after, some (j, w)⟩) (hx : evL env xs = some vs) (hj : dstOf ops j = some e) (hb : env.get e = some (.bool b)) (hbw : b = w)
    (hs : side) (hp : ∀ b, pendOk P n ops ((d, V b) :: env) (L b) (stillE after pend)) (h : ∀ b, RunP P n ops Q r (stillE after pend) ((d, V b) :: env) (L b)) : RunP P n ops Q ((.e, i) :: r) pend env H :=
  run_ey' _ ho hj hb hbw rfl (sop_mak hx hs fun b => ⟨hp b, h b⟩)
theorem Lym {j e : Tmp} {b w : Bool} {V : Nat → Value} {L : Nat → List Assn} [hF : FnC P f] [hc : MakC P f vs H side V L] (hx : evL env xs = some vs) (hj : (ops[j]?).bind (·.dst) = some e) (hb : env.get e = some (.bool b)) (hbw : b = w) (hs : side) (hd : Nat.blt d n = true) (h : ∀ b, xL P n ops rest Q ((d, V b) :: env) (L b)) :
    xL P n ops (⟨some d, .call ⟨.value (.func f), xs.toArray, ts⟩, ty, pos, after, some (j, w)⟩ :: rest) Q env H := xL_guard_yes rfl hj hb hbw hd (sop_mak hx hs h)
theorem Lyc {j e : Tmp} {b w : Bool} [hF : FnC P f] [hc : DetC P f vs H side V L] (hx : evL env xs = some vs) (hj : (ops[j]?).bind (·.dst) = some e) (hb : env.get e = some (.bool b)) (hbw : b = w) (hs : side) (hd : Nat.blt d n = true) (h : xL P n ops rest Q ((d, V) :: env) L) :
    xL P n ops (⟨some d, .call ⟨.value (.func f), xs.toArray, ts⟩, ty, pos, after, some (j, w)⟩ :: rest) Q env H := xL_guard_yes rfl hj hb hbw hd (sop_det hx hs h)
end
/-- the end of a body -/
theorem En {rs : List ResultVar} {V : Value} {L : List Assn} (hv : resE env rs = some v) (ht : Ent H L) (hV : v = V) : endS rs (Ret fun v H' => v = V ∧ H' = L) .normal env H := ⟨v, L, hv, ht, hV, rfl⟩
theorem Er {rs : List ResultVar} {V : Value} {L : List Assn} (hv : resE env rs = some v) (ht : Ent H L) (hV : v = V) : endS rs (Ret fun v H' => v = V ∧ H' = L) .ret env H := ⟨v, L, hv, ht, hV, rfl⟩
end
/-! meeting again behind a part -/
section
variable {P : Program} {n : Nat} {Q : Post} {env : Env} {H : List Assn} {x y : Code}
theorem xW_mid {ι : Type} (E : ι → Env) (G : ι → List Assn) (h1 : xW P n x (thenS (fun env' H' => ∃ j, Sub (E j) env' ∧ Ent H' (G j)) Q) env H) (h2 : ∀ j, xW P n y Q (E j) (G j)) : xW P n (.seq x y) Q env H := by
  refine xW_seq (xW_mono h1 ?_)
  intro e env' H' h
  cases e with
  | normal =>
    obtain ⟨j, hs, he⟩ := h
    exact xW_env hs (xW_ent he (h2 j))
  | exit id => exact h
  | goto l => exact h
  | ret => exact h
  | panic c => exact h
  | outgrown => exact h
end
/-! what came in -/
/-- a slice that is only read, wherever it lies -/
def RdS (sz : Nat) (v : Value) (xs : List Value) (m : Hp) : Prop :=
  ∃ p k cap, v = .slice p k cap ∧ xs.length = k * sz ∧ (k = 0 ∨ ∃ b o c e fr, p = some ⟨b, o, none⟩ ∧ m b = some (.cells c e fr) ∧ Seg c o xs)
theorem RdS.mono {sz : Nat} {v : Value} {xs : List Value} {m m' : Hp} (hm : Hp.le m m') (h : RdS sz v xs m) : RdS sz v xs m' := by
  obtain ⟨p, k, cap, h1, h2, h3⟩ := h
  refine ⟨p, k, cap, h1, h2, h3.imp id ?_⟩
  rintro ⟨b, o, c, e, fr, h4, h5, h6⟩
  exact ⟨b, o, c, e, fr, h4, hm _ _ h5, h6⟩
section
variable {T : List Assn → Prop} {H : List Assn} (hT : LocG T)
include hT
theorem LocG.rds_shape {F : List Assn} {φ : Hp → Prop} {sz k : Nat} {v : Value} {xs : List Value} (hp : PickC H (factA φ) F) (hφ : ∀ m, φ m → RdS sz v xs m) (hs : 0 < sz) (hl : xs.length = k * sz) (h : ∀ p cap, v = .slice p k cap → T H) : T H := by
  refine hT.knowsK hp ?_
  rintro ⟨m, hm⟩
  obtain ⟨p, k', cap, h1, h2, _⟩ := hφ m hm
  have : k = k' := Nat.eq_of_mul_eq_mul_right hs (hl.symm.trans h2)
  subst this
  exact h p cap h1
theorem LocG.rds_open {F : List Assn} {φ : Hp → Prop} {sz k cap : Nat} {p : Option Addr} {xs : List Value} (hp : PickC H (factA φ) F) (hφ : ∀ m, φ m → RdS sz (.slice p k cap) xs m) (h0 : k = 0 → xs = [] → T H)
    (h1 : ∀ b o c e fr, p = some ⟨b, o, none⟩ → xs.length = k * sz → Seg c o xs → T (ro b (.cells c e fr) :: H)) : T H := by
  refine hT.step _ (fun H' => (k = 0 ∧ xs = [] ∧ H' = H) ∨ ∃ b o c e fr, p = some ⟨b, o, none⟩ ∧ xs.length = k * sz ∧ Seg c o xs ∧ H' = ro b (.cells c e fr) :: H) ?_ ?_
  · rintro m f w ⟨x, hs, r⟩
    obtain ⟨⟨k0, hk, hx⟩, hl⟩ := sepL_fact (hp.get x m hs)
    obtain ⟨p', k', cap', e1, e2, e3⟩ := hφ k0 hx
    cases e1
    rcases e3 with rfl | ⟨b, o, c, e, fr, h4, h5, h6⟩
    · exact ⟨H, m, .inl ⟨rfl, List.length_eq_zero_iff.1 (by omega), rfl⟩, ⟨x, hs, r⟩, Hp.le_refl m⟩
    · exact ⟨_, m, .inr ⟨b, o, c, e, fr, h4, e2, h6, rfl⟩, ⟨x, ⟨Hp.emp, x, Hp.emp_dis _, (Hp.emp_un _).symm, ⟨rfl, hk _ _ h5⟩, hs⟩, r⟩, Hp.le_refl m⟩
  · rintro H' (⟨e1, e2, rfl⟩ | ⟨b, o, c, e, fr, e0, e1, e2, rfl⟩)
    · exact h0 e1 e2
    · exact h1 b o c e fr e0 e1 e2
end
section
variable {T : List Assn → Prop} {H : List Assn} (hT : LocG T)
include hT
/-- how a slice of one's own looks -/
theorem LocG.own_shape {F : List Assn} {sz k : Nat} {v : Value} {xs : List Value} (hp : PickC H (ownS sz v xs) F) (hs : 0 < sz) (hl : xs.length = k * sz) (h : ∀ p cap, v = .slice p k cap → T H) : T H := by
  refine hT.step _ (fun H' => (∃ p cap, v = .slice p k cap) ∧ H' = H) ?_ (by rintro _ ⟨⟨p, cap, e⟩, rfl⟩; exact h p cap e)
  rintro m f w ⟨x, hx, r⟩
  refine ⟨H, m, ⟨?_, rfl⟩, ⟨x, hx, r⟩, Hp.le_refl m⟩
  rcases own_cases (hp.get x m hx) with ⟨rfl, rfl, _⟩ | ⟨b, e, k', cap, rest, rfl, e1, e2, _⟩
  · have : k = 0 := by
      rcases Nat.eq_zero_or_pos k with h | h
      · exact h
      · exact absurd (Nat.mul_pos h hs) (by simp at hl; omega)
    subst this
    exact ⟨none, 0, rfl⟩
  · have : k = k' := Nat.eq_of_mul_eq_mul_right hs (hl.symm.trans e1)
    subst this
    exact ⟨_, cap, rfl⟩
/-- opens a slice of one's own -/
theorem LocG.own_open {F : List Assn} {sz k cap : Nat} {p : Option Addr} {xs : List Value} (hp : PickC H (ownS sz (.slice p k cap) xs) F) (h0 : p = none → k = 0 → cap = 0 → xs = [] → T F)
    (h1 : ∀ b e rest, p = some ⟨b, 0, none⟩ → xs.length = k * sz → (xs ++ rest).length = cap * sz → T (pt b (.cells (xs ++ rest).toArray e (0, 0)) :: F)) : T H := by
  refine hT.step _ (fun H' => (p = none ∧ k = 0 ∧ cap = 0 ∧ xs = [] ∧ H' = F) ∨ ∃ b e rest, p = some ⟨b, 0, none⟩ ∧ xs.length = k * sz ∧ (xs ++ rest).length = cap * sz ∧ H' = pt b (.cells (xs ++ rest).toArray e (0, 0)) :: F) ?_ ?_
  · rintro m f w ⟨x, hx, r⟩
    rcases own_cases (hp.get x m hx) with ⟨e1, rfl, h⟩ | ⟨b, e, k', cap', rest, e0, e1, e2, h⟩
    · cases e1
      exact ⟨F, m, .inl ⟨rfl, rfl, rfl, rfl, rfl⟩, ⟨x, h, r⟩, Hp.le_refl m⟩
    · cases e0
      exact ⟨_, m, .inr ⟨b, e, rest, rfl, e1, e2, rfl⟩, ⟨x, h, r⟩, Hp.le_refl m⟩
  · rintro H' (⟨e1, e2, e3, e4, rfl⟩ | ⟨b, e, rest, e0, e1, e2, rfl⟩)
    · exact h0 e1 e2 e3 e4
    · exact h1 b e rest e0 e1 e2
end
end Go.SL
