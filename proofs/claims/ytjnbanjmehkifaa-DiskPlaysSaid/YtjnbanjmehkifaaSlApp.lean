/- append, copy, slicing. -/
import Derived.Test.YtjnbanjmehkifaaSlMem
namespace Go.SL

/-- a slice of the program's own, that may grow: its cells are xs (sz cells an element) -/
def ownS (sz : Nat) (v : Value) (xs : List Value) : Assn :=
  ⟨fun h _ => (v = .slice none 0 0 ∧ xs = [] ∧ h = Hp.emp) ∨ ∃ b e k cap rest, v = .slice (some ⟨b, 0, none⟩) k cap ∧ xs.length = k * sz ∧ (xs ++ rest).length = cap * sz ∧ h = Hp.one b (.cells (xs ++ rest).toArray e (0, 0)), fun _ _ _ _ h => h⟩

theorem ent_own {H : List Assn} {sz b e k cap : Nat} {xs rest : List Value} (h1 : xs.length = k * sz) (h2 : (xs ++ rest).length = cap * sz) :
    Ent (pt b (.cells (xs ++ rest).toArray e (0, 0)) :: H) (ownS sz (.slice (some ⟨b, 0, none⟩) k cap) xs :: H) := by
  rintro h m ⟨p, q, hd, rfl, hp, hl⟩
  exact ⟨_, Hp.le_refl _, p, q, hd, rfl, .inr ⟨b, e, k, cap, rest, rfl, h1, h2, hp⟩, hl⟩
theorem ent_own_nil {H : List Assn} {sz : Nat} : Ent H (ownS sz (.slice none 0 0) [] :: H) := by
  intro h m hs
  exact ⟨h, Hp.le_refl _, Hp.emp, h, Hp.emp_dis _, (Hp.emp_un _).symm, .inl ⟨rfl, rfl, rfl⟩, hs⟩

theorem own_cases {H : List Assn} {sz : Nat} {v : Value} {xs : List Value} {h m : Hp} (hs : sepL (ownS sz v xs :: H) h m) :
    (v = .slice none 0 0 ∧ xs = [] ∧ sepL H h m) ∨ ∃ b e k cap rest, v = .slice (some ⟨b, 0, none⟩) k cap ∧ xs.length = k * sz ∧ (xs ++ rest).length = cap * sz ∧ sepL (pt b (.cells (xs ++ rest).toArray e (0, 0)) :: H) h m := by
  obtain ⟨p, q, hd, rfl, hp, hl⟩ := hs
  rcases hp with ⟨rfl, rfl, rfl⟩ | ⟨b, e, k, cap, rest, rfl, h1, h2, rfl⟩
  · exact .inl ⟨rfl, rfl, by rw [Hp.emp_un]; exact hl⟩
  · exact .inr ⟨b, e, k, cap, rest, rfl, h1, h2, _, q, hd, rfl, rfl, hl⟩

/-- an assertion of the list is parted into cases -/
theorem SatH.imp {H : List Assn} {m f : Hp} {w : World} {φ : Prop} (sh : SatH H m f w) (h : ∀ x, sepL H x m → φ) : φ := by
  obtain ⟨x, h1, _⟩ := sh
  exact h x h1

section
variable {P : Program} {n : Nat} {Q : Post} {env : Env} {H : List Assn}
/-- whatever is known of memory may be parted into cases -/
theorem Does.cases {f : FuncId} {args : Array Value} {R : Ending → List Assn → Prop} (C : List Assn → Prop) (hc : ∀ x m, sepL H x m → ∃ H', C H' ∧ ∃ y, Hp.le y x ∧ sepL H' y m) (h : ∀ H', C H' → Does P f args H' R) : Does P f args H R := by
  intro w m fr ⟨x, h1, h2, h3, h4, h5, h6, h7⟩
  obtain ⟨H', hC, y, hy, hs⟩ := hc x m h1
  exact h H' hC w m fr ⟨y, hs, Hp.le_trans hy h2, h3, h4, Hp.dis_mono h5 hy, Hp.dis_mono h6 hy, h7⟩
theorem xW.cases {c : Code} (C : List Assn → Prop) (hc : ∀ x m, sepL H x m → ∃ H', C H' ∧ ∃ y, Hp.le y x ∧ sepL H' y m) (h : ∀ H', C H' → xW P n c Q env H') : xW P n c Q env H := by
  intro a w m fr se ⟨x, h1, h2, h3, h4, h5, h6, h7⟩
  obtain ⟨H', hC, y, hy, hs⟩ := hc x m h1
  exact h H' hC a w m fr se ⟨y, hs, Hp.le_trans hy h2, h3, h4, Hp.dis_mono h5 hy, Hp.dis_mono h6 hy, h7⟩
theorem xL.cases {ops : Array Oper} {l : List Oper} (C : List Assn → Prop) (hc : ∀ x m, sepL H x m → ∃ H', C H' ∧ ∃ y, Hp.le y x ∧ sepL H' y m) (h : ∀ H', C H' → xL P n ops l Q env H') : xL P n ops l Q env H := by
  intro a w m fr se ⟨x, h1, h2, h3, h4, h5, h6, h7⟩
  obtain ⟨H', hC, y, hy, hs⟩ := hc x m h1
  exact h H' hC a w m fr se ⟨y, hs, Hp.le_trans hy h2, h3, h4, Hp.dis_mono h5 hy, Hp.dis_mono h6 hy, h7⟩

theorem Does.own {f : FuncId} {args : Array Value} {R : Ending → List Assn → Prop} {sz : Nat} {v : Value} {xs : List Value} (h0 : v = .slice none 0 0 → xs = [] → Does P f args H R)
    (h1 : ∀ b e k cap rest, v = .slice (some ⟨b, 0, none⟩) k cap → xs.length = k * sz → (xs ++ rest).length = cap * sz → Does P f args (pt b (.cells (xs ++ rest).toArray e (0, 0)) :: H) R) : Does P f args (ownS sz v xs :: H) R := by
  refine Does.cases (fun H' => (v = .slice none 0 0 ∧ xs = [] ∧ H' = H) ∨ ∃ b e k cap rest, v = .slice (some ⟨b, 0, none⟩) k cap ∧ xs.length = k * sz ∧ (xs ++ rest).length = cap * sz ∧ H' = pt b (.cells (xs ++ rest).toArray e (0, 0)) :: H) ?_ ?_
  · intro x m hs
    rcases own_cases hs with ⟨rfl, rfl, h⟩ | ⟨b, e, k, cap, rest, rfl, e1, e2, h⟩
    · exact ⟨H, .inl ⟨rfl, rfl, rfl⟩, x, Hp.le_refl x, h⟩
    · exact ⟨_, .inr ⟨b, e, k, cap, rest, rfl, e1, e2, rfl⟩, x, Hp.le_refl x, h⟩
  · rintro H' (⟨e1, e2, rfl⟩ | ⟨b, e, k, cap, rest, e0, e1, e2, rfl⟩)
    · exact h0 e1 e2
    · exact h1 b e k cap rest e0 e1 e2
theorem xW.own {c : Code} {sz : Nat} {v : Value} {xs : List Value} (h0 : v = .slice none 0 0 → xs = [] → xW P n c Q env H)
    (h1 : ∀ b e k cap rest, v = .slice (some ⟨b, 0, none⟩) k cap → xs.length = k * sz → (xs ++ rest).length = cap * sz → xW P n c Q env (pt b (.cells (xs ++ rest).toArray e (0, 0)) :: H)) : xW P n c Q env (ownS sz v xs :: H) := by
  refine xW.cases (fun H' => (v = .slice none 0 0 ∧ xs = [] ∧ H' = H) ∨ ∃ b e k cap rest, v = .slice (some ⟨b, 0, none⟩) k cap ∧ xs.length = k * sz ∧ (xs ++ rest).length = cap * sz ∧ H' = pt b (.cells (xs ++ rest).toArray e (0, 0)) :: H) ?_ ?_
  · intro x m hs
    rcases own_cases hs with ⟨rfl, rfl, h⟩ | ⟨b, e, k, cap, rest, rfl, e1, e2, h⟩
    · exact ⟨H, .inl ⟨rfl, rfl, rfl⟩, x, Hp.le_refl x, h⟩
    · exact ⟨_, .inr ⟨b, e, k, cap, rest, rfl, e1, e2, rfl⟩, x, Hp.le_refl x, h⟩
  · rintro H' (⟨e1, e2, rfl⟩ | ⟨b, e, k, cap, rest, e0, e1, e2, rfl⟩)
    · exact h0 e1 e2
    · exact h1 b e k cap rest e0 e1 e2
theorem xL.own {ops : Array Oper} {c : List Oper} {sz : Nat} {v : Value} {xs : List Value} (h0 : v = .slice none 0 0 → xs = [] → xL P n ops c Q env H)
    (h1 : ∀ b e k cap rest, v = .slice (some ⟨b, 0, none⟩) k cap → xs.length = k * sz → (xs ++ rest).length = cap * sz → xL P n ops c Q env (pt b (.cells (xs ++ rest).toArray e (0, 0)) :: H)) : xL P n ops c Q env (ownS sz v xs :: H) := by
  refine xL.cases (fun H' => (v = .slice none 0 0 ∧ xs = [] ∧ H' = H) ∨ ∃ b e k cap rest, v = .slice (some ⟨b, 0, none⟩) k cap ∧ xs.length = k * sz ∧ (xs ++ rest).length = cap * sz ∧ H' = pt b (.cells (xs ++ rest).toArray e (0, 0)) :: H) ?_ ?_
  · intro x m hs
    rcases own_cases hs with ⟨rfl, rfl, h⟩ | ⟨b, e, k, cap, rest, rfl, e1, e2, h⟩
    · exact ⟨H, .inl ⟨rfl, rfl, rfl⟩, x, Hp.le_refl x, h⟩
    · exact ⟨_, .inr ⟨b, e, k, cap, rest, rfl, e1, e2, rfl⟩, x, Hp.le_refl x, h⟩
  · rintro H' (⟨e1, e2, rfl⟩ | ⟨b, e, k, cap, rest, e0, e1, e2, rfl⟩)
    · exact h0 e1 e2
    · exact h1 b e k cap rest e0 e1 e2

/-- opening what is told with 'there is' -/
theorem Does.ex {f : FuncId} {args : Array Value} {R : Ending → List Assn → Prop} {α : Sort _} {A : α → List Assn} (h : ∀ x, Does P f args (A x ++ H) R) : Does P f args (exA A :: H) R := by
  refine Does.cases (fun H' => ∃ x, H' = A x ++ H) ?_ (by rintro _ ⟨x, rfl⟩; exact h x)
  rintro y m ⟨p, q, hd, rfl, ⟨x, hx⟩, hl⟩
  exact ⟨_, ⟨x, rfl⟩, _, Hp.le_refl _, (sepL_append _ _ _ _).2 ⟨p, q, hd, rfl, hx, hl⟩⟩
theorem xW.ex {c : Code} {α : Sort _} {A : α → List Assn} (h : ∀ x, xW P n c Q env (A x ++ H)) : xW P n c Q env (exA A :: H) := by
  refine xW.cases (fun H' => ∃ x, H' = A x ++ H) ?_ (by rintro _ ⟨x, rfl⟩; exact h x)
  rintro y m ⟨p, q, hd, rfl, ⟨x, hx⟩, hl⟩
  exact ⟨_, ⟨x, rfl⟩, _, Hp.le_refl _, (sepL_append _ _ _ _).2 ⟨p, q, hd, rfl, hx, hl⟩⟩
theorem xL.ex {ops : Array Oper} {c : List Oper} {α : Sort _} {A : α → List Assn} (h : ∀ x, xL P n ops c Q env (A x ++ H)) : xL P n ops c Q env (exA A :: H) := by
  refine xL.cases (fun H' => ∃ x, H' = A x ++ H) ?_ (by rintro _ ⟨x, rfl⟩; exact h x)
  rintro y m ⟨p, q, hd, rfl, ⟨x, hx⟩, hl⟩
  exact ⟨_, ⟨x, rfl⟩, _, Hp.le_refl _, (sepL_append _ _ _ _).2 ⟨p, q, hd, rfl, hx, hl⟩⟩
theorem xL.pure {ops : Array Oper} {c : List Oper} {p : Prop} (h : p → xL P n ops c Q env H) : xL P n ops c Q env (pureA p :: H) := by
  refine xL.cases (fun H' => p ∧ H' = H) ?_ (by rintro _ ⟨hp, rfl⟩; exact h hp)
  rintro y m ⟨x, q, hd, rfl, ⟨rfl, hx⟩, hl⟩
  exact ⟨_, ⟨hx, rfl⟩, q, by rw [Hp.emp_un]; exact Hp.le_refl _, hl⟩
theorem xW.pure {c : Code} {p : Prop} (h : p → xW P n c Q env H) : xW P n c Q env (pureA p :: H) := by
  refine xW.cases (fun H' => p ∧ H' = H) ?_ (by rintro _ ⟨hp, rfl⟩; exact h hp)
  rintro y m ⟨x, q, hd, rfl, ⟨rfl, hx⟩, hl⟩
  exact ⟨_, ⟨hx, rfl⟩, q, by rw [Hp.emp_un]; exact Hp.le_refl _, hl⟩
theorem Does.pure {f : FuncId} {args : Array Value} {R : Ending → List Assn → Prop} {p : Prop} (h : p → Does P f args H R) : Does P f args (pureA p :: H) R := by
  refine Does.cases (fun H' => p ∧ H' = H) ?_ (by rintro _ ⟨hp, rfl⟩; exact h hp)
  rintro y m ⟨x, q, hd, rfl, ⟨rfl, hx⟩, hl⟩
  exact ⟨_, ⟨hx, rfl⟩, q, by rw [Hp.emp_un]; exact Hp.le_refl _, hl⟩
theorem ent_ex {α : Sort _} {A : α → List Assn} (x : α) : Ent (A x ++ H) (exA A :: H) := by
  intro h m hs
  obtain ⟨p, q, hd, rfl, h1, h2⟩ := (sepL_append _ _ _ _).1 hs
  exact ⟨_, Hp.le_refl _, p, q, hd, rfl, ⟨x, h1⟩, h2⟩
theorem ent_pure {p : Prop} (hp : p) : Ent H (pureA p :: H) := fun h m hs => ⟨h, Hp.le_refl _, Hp.emp, h, Hp.emp_dis _, (Hp.emp_un _).symm, ⟨rfl, hp⟩, hs⟩
theorem ent_cons {H' : List Assn} {A : Assn} (h : Ent H H') : Ent (A :: H) (A :: H') := by
  rintro x m ⟨p, q, hd, rfl, ha, hl⟩
  obtain ⟨q', hle, hq⟩ := h q m hl
  refine ⟨Hp.un p q', ?_, p, q', ?_, rfl, ha, hq⟩
  · exact Hp.un_le (Hp.le_un_left _ _) (Hp.le_trans hle (Hp.le_un_right hd))
  · exact Hp.dis_symm (Hp.dis_mono (Hp.dis_symm hd) hle)
end

/-- a slice is seen to have these cells -/
def Shows (H : List Assn) (y : Value) (sz k : Nat) (ys : List Value) : Prop :=
  ∃ p cap, y = .slice p k cap ∧ ys.length = k * sz ∧ (k * sz = 0 ∨ ∃ b o c e fr, p = some ⟨b, o, none⟩ ∧ Rd H b (.cells c e fr) ∧ Seg c o ys)

theorem shows_nil {H : List Assn} {sz cap : Nat} {p : Option Addr} : Shows H (.slice p 0 cap) sz 0 [] := ⟨p, cap, rfl, by simp, .inl (by simp)⟩
theorem shows_seg {H : List Assn} {b o k cap sz : Nat} {c : Array Value} {e : TypeId} {fr : Nat × Nat} {ys : List Value} [hr : RdC H b (.cells c e fr)] (hs : Seg c o ys) (hl : ys.length = k * sz) : Shows H (.slice (some ⟨b, o, none⟩) k cap) sz k ys :=
  ⟨_, cap, rfl, hl, .inr ⟨b, o, c, e, fr, rfl, hr.get, hs⟩⟩

section
variable {P : Program} {n : Nat} {Q : Post} {env : Env} {H F : List Assn} {dst : Option Tmp} {ty : TypeId} {pos : String} {after : Array Edge} {g : Option (Nat × Bool)}

theorem Shows.cells {y : Value} {sz k : Nat} {ys : List Value} {m f : Hp} {w : World} (h : Shows H y sz k ys) (sh : SatH H m f w) : ∃ p cap, y = .slice p k cap ∧ (Builtin.firstCells sz k y).run P w = .ok ys.toArray w := by
  obtain ⟨p, cap, rfl, hl, h⟩ := h
  refine ⟨p, cap, rfl, ?_⟩
  rcases h with h0 | ⟨b, o, c, e, fr, rfl, hr, hs⟩
  · have : ys = [] := List.length_eq_zero_iff.1 (by omega)
    subst this
    cases p with
    | none => rfl
    | some a => simp [Builtin.firstCells, h0, loadCells, loadCellsFrom]
  · simp only [Builtin.firstCells, ← hl]
    rw [run_xloadCells (P := P) (sh.rd hr) hs.1, hs.extract]

theorem putAt_own (xs ys rest : List Value) (h : ys.length ≤ rest.length) : putAt (xs ++ rest).toArray xs.length ys = (xs ++ ys ++ rest.drop ys.length).toArray := by
  have := putAt_list ys (rest.take ys.length) xs (rest.drop ys.length) (by simp; omega)
  simp only [List.append_assoc, List.take_append_drop] at this
  rw [this]; simp

theorem run_append_fits {t t2 e e2 ty : TypeId} {agg : Bool} {size bytes kk k cap : Nat} {zero u : Value} {base : Option Addr} {ys : List Value} {w : World} [hS : SliceC P t e] [hS2 : SliceC P t2 e2] [hE : TyC P e agg size bytes zero]
    (hl : ∀ w, (Builtin.lenOf u).run P w = .ok k w) (hfc : (Builtin.firstCells size k u).run P w = .ok ys.toArray w) (hc : kk + k ≤ cap) :
    (Builtin.append_ #[t, t2] ty #[.slice base kk cap, u]).run P w = match base with
      | none => .ok (.slice base (kk + k) cap) w
      | some a => ((storeCells (a.add (kk * size)) ys).run P w).andThen fun _ w' => .ok (.slice base (kk + k) cap) w' := by
  have hl' := hl w
  simp only [Builtin.append_, List.getElem?_toArray, List.getElem?_cons_zero, List.getElem?_cons_succ, Sem.run_bind, run_under _ hS.get, run_under _ hS2.get, Result.andThen_ok, run_xsizeOf (h := hE), Sem.run_pure, hl', Bool.false_eq_true, if_false, Bool.not_false, if_true]
  rw [if_pos hc]
  simp only [Sem.run_bind, hfc, Result.andThen_ok]
  cases base <;> simp

theorem run_append_grows {t t2 e e2 ty : TypeId} {agg : Bool} {size bytes kk k cap : Nat} {zero u : Value} {base : Option Addr} {xs ys : List Value} {w : World} [hS : SliceC P t e] [hS2 : SliceC P t2 e2] [hE : TyC P e agg size bytes zero]
    (hl : ∀ w, (Builtin.lenOf u).run P w = .ok k w) (hfc : ∀ w' : World, w'.heap = w.heap → (Builtin.firstCells size k u).run P w' = .ok ys.toArray w')
    (hold : ∀ w' : World, w'.heap = w.heap → (Builtin.firstCells size kk (.slice base kk cap)).run P w' = .ok xs.toArray w') (hc : cap < kk + k) (hb : (kk + k) * bytes ≤ 140737488355328) (hm : kk + k ≤ 4611686018427387904) :
    ∃ newCap w', kk + k ≤ newCap ∧ (Builtin.append_ #[t, t2] ty #[.slice base kk cap, u]).run P w = .ok (.slice (some ⟨w.heap.size, 0, none⟩) (kk + k) newCap) w' ∧ Str w w' ∧
      w'.heap = w.heap.push (.cells (xs.toArray ++ ys.toArray ++ Builtin.zeroCells zero.cells (newCap - (kk + k))) e (0, 0)) := by
  have hl' := hl w
  obtain ⟨i, hi, hib, hisz⟩ := run_bytesOf (P := P) (t := e) w (h := hE)
  have hi2 : ∀ w', (typeInfo e).run P w' = .ok i w' := by
    intro w'
    obtain ⟨j, hj, _⟩ := run_bytesOf (P := P) (t := e) w' (h := hE)
    have h1 := hE.size
    cases hu : P.info? e with
    | none => simp [hu] at h1
    | some y =>
      simp only [typeInfo, Sem.run_bind, run_program, Result.andThen_ok, hu, Sem.run_pure] at hi ⊢
      simp at hi
      rw [hi]
  have hfit := growslice_fits (bytes := bytes) hc hb
  refine ⟨(Question.appendCap (kk + k) cap e).cut (w.tape w.drawn (.appendCap (kk + k) cap e)), { w with drawn := w.drawn + 1, heap := w.heap.push (.cells (xs.toArray ++ ys.toArray ++ Builtin.zeroCells zero.cells ((Question.appendCap (kk + k) cap e).cut (w.tape w.drawn (.appendCap (kk + k) cap e)) - (kk + k))) e (0, 0)) }, ?_, ?_, ⟨rfl, rfl, rfl⟩, rfl⟩
  · simp [Question.cut]
  simp only [Builtin.append_, List.getElem?_toArray, List.getElem?_cons_zero, List.getElem?_cons_succ, Sem.run_bind, run_under _ hS.get, run_under _ hS2.get, Result.andThen_ok, run_xsizeOf (h := hE), Sem.run_pure, hl', Bool.false_eq_true, if_false, Bool.not_false, if_true]
  rw [if_neg (by omega)]
  simp only [Sem.run_bind, hi2, Result.andThen_ok, hib]
  rw [if_neg (by rintro ⟨h, _⟩; simp only [IntKind.max, IntKind.signed, IntKind.bits, if_true] at h; omega)]
  simp only [Sem.run_bind, hi2, Result.andThen_ok, hib]
  rw [if_neg (by omega)]
  simp only [Sem.run_bind, run_choose, Question.forced, Bool.false_eq_true, if_false, Result.andThen_ok, hi2, run_askRoom]
  rw [hold { w with drawn := w.drawn + 1 } rfl]
  simp only [Result.andThen_ok]
  rw [hfc { w with drawn := w.drawn + 1 } rfl]
  simp only [Result.andThen_ok, run_zeroValue (h := hE)]
  simp [newRow]
  rfl

/-- append of a slice onto a slice of one's own -/
theorem sop_append {t t2 e e2 : TypeId} {agg : Bool} {size bytes k0 k : Nat} {zero : Value} {x y : Operand} {v u : Value} {xs ys : List Value} {K : Value → List Assn → Prop} [hS : SliceC P t e] [hS2 : SliceC P t2 e2] [hE : TyC P e agg size bytes zero]
    (hx : evS env x = some v) (hy : evS env y = some u) (hown : PickC H (ownS size v xs) F) (hsh : Shows H u size k ys) (h1 : ∀ v ∈ ys, v.oneCell' = true) (hz : zero.cells.size = size)
    (hk0 : xs.length = k0 * size) (hb : (k0 + k) * bytes ≤ 140737488355328) (hm : k0 + k ≤ 4611686018427387904) (hs0 : 0 < size)
    (hk : ∀ v', v'.oneCell' = true → K v' (ownS size v' (xs ++ ys) :: F)) : SOp P n ⟨dst, .call ⟨.builtin .append, #[x, y], #[t, t2]⟩, ty, pos, after, g⟩ Q env H K := by
  intro a w m f se sh
  obtain ⟨p, ucap, rfl, hfc⟩ := hsh.cells (P := P) sh
  have hul : ys.length = k * size := by obtain ⟨_, _, e1, h2, _⟩ := hsh; simp at e1; rw [h2]
  have shx := sh.ent (fun h m hs => ⟨h, Hp.le_refl h, hown.get h m hs⟩)
  have hfc' : ∀ w' : World, w'.heap = w.heap → (Builtin.firstCells size k (.slice p k ucap)).run P w' = .ok ys.toArray w' := by
    intro w' hw
    obtain ⟨_, _, e1, h⟩ := hsh.cells (P := P) (sh.same hw)
    exact h
  have hl : ∀ w, (Builtin.lenOf (.slice p k ucap)).run P w = .ok k w := fun w => rfl
  unfold OpRes
  have hstart : (execOp a.eval ⟨dst, .call ⟨.builtin .append, #[x, y], #[t, t2]⟩, ty, pos, after, g⟩).run P w = ((Builtin.append_ #[t, t2] ty #[v, .slice p k ucap]).run P w).andThen fun r w' => .ok (.value r) w' := by
    simp [execOp, resolve, invoke, builtin, evS_sound se hx, evS_sound se hy]
  rw [hstart]
  obtain ⟨hp, hs, hle, hlm, hlf, hd1, hd2, hd3⟩ := shx
  have grows : ∀ base kk cap, v = .slice base kk cap → kk = k0 → cap < k0 + k → (∀ w' : World, w'.heap = w.heap → (Builtin.firstCells size kk (.slice base kk cap)).run P w' = .ok xs.toArray w') → sepL F hp m ∨ (∃ b o, sepL (pt b o :: F) hp m) →
      ∃ v' w', (Builtin.append_ #[t, t2] ty #[v, .slice p k ucap]).run P w = .ok v' w' ∧ ∃ H' m', K v' H' ∧ SatH H' m' f w' ∧ Hp.le m m' ∧ Str w w' := by
    rintro base kk cap rfl rfl hc hold hF
    obtain ⟨newCap, w', hnc, hrun, hstr, hheap⟩ := run_append_grows (P := P) (ty := ty) (t := t) (t2 := t2) (e := e) hl hfc' hold hc hb hm
    refine ⟨_, _, hrun, ?_⟩
    have shF : SatH F m f w := by
      rcases hF with h | ⟨b, o, p1, q1, hdd, rfl, _, hq⟩
      · exact ⟨hp, h, hle, hlm, hlf, hd1, hd2, hd3⟩
      · exact ⟨q1, hq, Hp.le_trans (Hp.le_un_right hdd) hle, hlm, hlf, Hp.dis_of_un_right hdd hd1, Hp.dis_of_un_right hdd hd2, hd3⟩
    have hcat : xs.toArray ++ ys.toArray ++ Builtin.zeroCells zero.cells (newCap - (kk + k)) = (xs ++ ys ++ (Builtin.zeroCells zero.cells (newCap - (kk + k))).toList).toArray := by
      apply Array.ext'; simp
    rw [hcat] at hheap
    have shn := shF.new hheap
    refine ⟨_, m, hk _ rfl, shn.ent ?_, Hp.le_refl m, hstr⟩
    have hzc : (Builtin.zeroCells zero.cells (newCap - (kk + k))).size = (newCap - (kk + k)) * size := by simp [Builtin.zeroCells, hz]
    have := ent_own (H := F) (sz := size) (b := w.heap.size) (e := e) (k := kk + k) (cap := newCap) (xs := xs ++ ys) (rest := (Builtin.zeroCells zero.cells (newCap - (kk + k))).toList) (by simp [hk0, hul, Nat.add_mul]) (by
      simp only [List.length_append, hk0, hul, Array.length_toList, hzc]
      rw [← Nat.add_mul, ← Nat.add_mul]
      congr 1; omega)
    exact this
  rcases own_cases hs with ⟨rfl, rfl, hF⟩ | ⟨b, e', k', cap, rest, rfl, e1, e2, hF⟩
  · have hk00 : k0 = 0 := by
      rcases Nat.eq_zero_or_pos k0 with h | h
      · exact h
      · have := Nat.mul_pos h hs0; simp at hk0; omega
    subst hk00
    by_cases hkz : k = 0
    · subst hkz
      have hyz : ys = [] := List.length_eq_zero_iff.1 (by omega)
      subst hyz
      rw [run_append_fits (P := P) (ty := ty) (t := t) (t2 := t2) (e := e) hl hfc (by omega)]
      have shF : SatH F m f w := ⟨hp, hF, hle, hlm, hlf, hd1, hd2, hd3⟩
      exact ⟨_, m, hk _ rfl, shF.ent ent_own_nil, Hp.le_refl m, Str.refl w⟩
    · obtain ⟨v', w', hrun, hh⟩ := grows none 0 0 rfl rfl (by omega) (fun w' hw => rfl) (.inl hF)
      rw [hrun]
      exact hh
  · have hk' : k' = k0 := Nat.eq_of_mul_eq_mul_right hs0 (by omega)
    subst hk'
    have hb0 : w.heap[b]? = some (.cells (xs ++ rest).toArray e' (0, 0)) := SatH.rd (H := pt b (.cells (xs ++ rest).toArray e' (0, 0)) :: F) (m := m) (f := f) ⟨hp, hF, hle, hlm, hlf, hd1, hd2, hd3⟩ Rd.head
    by_cases hc : k' + k ≤ cap
    · rw [run_append_fits (P := P) (ty := ty) (t := t) (t2 := t2) (e := e) hl hfc hc]
      have hlen : xs.length + ys.length ≤ (xs ++ rest).length := by
        rw [e2, e1, hul, ← Nat.add_mul]
        exact Nat.mul_le_mul_right _ hc
      simp only [List.length_append] at hlen
      obtain ⟨w', hrun, hstr, hh⟩ := run_storeCells (P := P) (b := b) (o := k' * size) (e := e') ys 0 _ w hb0 (by simp; omega) h1
      simp only [add_none, Nat.zero_add]
      rw [hrun]
      simp only [Result.andThen_ok]
      have sh0 : SatH (pt b (.cells (xs ++ rest).toArray e' (0, 0)) :: F) m f w := ⟨hp, hF, hle, hlm, hlf, hd1, hd2, hd3⟩
      have hput := putAt_own xs ys rest (by omega)
      rw [e1] at hput
      have sh1 := sh0.upd (H' := pt b (.cells (xs ++ ys ++ rest.drop ys.length).toArray e' (0, 0)) :: F) Wr.head (w' := w') (by intro x; rw [hh x, Nat.add_zero, hput])
      refine ⟨_, m, hk _ rfl, sh1.ent ?_, Hp.le_refl m, hstr⟩
      have := ent_own (H := F) (sz := size) (b := b) (e := e') (k := k' + k) (cap := cap) (xs := xs ++ ys) (rest := rest.drop ys.length) (by simp [hk0, hul, Nat.add_mul]) (by
        rw [← e2]; simp; omega)
      simpa using this
    · suffices h : ∀ w' : World, w'.heap = w.heap → (Builtin.firstCells size k' (.slice (some ⟨b, 0, none⟩) k' cap)).run P w' = .ok xs.toArray w' by
        obtain ⟨v', w', hrun, hh⟩ := grows _ _ _ rfl rfl (by omega) h (.inr ⟨_, _, hF⟩)
        rw [hrun]
        exact hh
      intro w' hw
      have hb1 : w'.heap[b]? = some (.cells (xs ++ rest).toArray e' (0, 0)) := by rw [hw]; exact hb0
      simp only [Builtin.firstCells, ← e1]
      rw [run_xloadCells (P := P) hb1 (by simp)]
      have := (Seg.head (l := xs) (r := rest)).extract
      simp only [Nat.zero_add] at this ⊢
      rw [this]
end
end Go.SL
