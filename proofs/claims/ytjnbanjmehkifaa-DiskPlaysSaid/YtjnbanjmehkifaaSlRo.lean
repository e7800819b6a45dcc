/- What is never written any more: facts on it may be kept for good. -/
import Derived.Test.YtjnbanjmehkifaaSlMisc
namespace Go.SL
set_option linter.unusedVariables false

/-- a fact on what is never written any more -/
def factA (φ : Hp → Prop) : Assn := ⟨fun h m => h = Hp.emp ∧ ∃ k, Hp.le k m ∧ φ k, fun _ _ _ hm ⟨h, k, hk, hx⟩ => ⟨h, k, Hp.le_trans hk hm, hx⟩⟩

/-- the goals that tell of all states of a list of assertions -/
structure LocG (T : List Assn → Prop) : Prop where
  step : ∀ (H : List Assn) (C : List Assn → Prop), (∀ m f w, SatH H m f w → ∃ H' m', C H' ∧ SatH H' m' f w ∧ Hp.le m m') → (∀ H', C H' → T H') → T H

section
variable {P : Program} {n : Nat} {Q : Post} {env : Env} {H : List Assn}
theorem loc_xW {c : Code} : LocG (fun H => xW P n c Q env H) := ⟨fun H C hc h a w m f se sh => by
  obtain ⟨H', m', hC, sh', hm⟩ := hc m f w sh
  exact wp_mono (h H' hC a w m' f se sh') fun e a1 w1 hp => post_trans hm (Str.refl w) hp⟩
theorem loc_xL {ops : Array Oper} {l : List Oper} : LocG (fun H => xL P n ops l Q env H) := ⟨fun H C hc h a w m f se sh => by
  obtain ⟨H', m', hC, sh', hm⟩ := hc m f w sh
  exact wpList_mono (fun e a1 w1 hp => post_trans hm (Str.refl w) hp) _ _ _ (h H' hC a w m' f se sh')⟩
theorem loc_Does {fn : FuncId} {args : Array Value} {R : Ending → List Assn → Prop} : LocG (fun H => Does P fn args H R) := ⟨fun H C hc h w m f sh => by
  obtain ⟨H', m', hC, sh', hm⟩ := hc m f w sh
  refine Calls.mono (h H' hC w m' f sh') ?_
  rintro e w' ⟨H1, m1, hR, sh1, hm1, hs⟩
  exact ⟨H1, m1, hR, sh1, Hp.le_trans hm hm1, hs⟩⟩

theorem sepL_fact {φ : Hp → Prop} {h m : Hp} (hs : sepL (factA φ :: H) h m) : (∃ k, Hp.le k m ∧ φ k) ∧ sepL H h m := by
  obtain ⟨p, q, hd, rfl, ⟨rfl, hx⟩, hl⟩ := hs
  exact ⟨hx, by rw [Hp.emp_un]; exact hl⟩
theorem sepL_fact_cons {φ : Hp → Prop} {h m : Hp} (hx : ∃ k, Hp.le k m ∧ φ k) (hl : sepL H h m) : sepL (factA φ :: H) h m :=
  ⟨Hp.emp, h, Hp.emp_dis _, (Hp.emp_un _).symm, ⟨rfl, hx⟩, hl⟩
theorem SatH.fact {φ : Hp → Prop} {m f : Hp} {w : World} (hs : SatH (factA φ :: H) m f w) : (∃ k, Hp.le k m ∧ φ k) ∧ SatH H m f w := by
  obtain ⟨h, h1, r⟩ := hs
  exact ⟨(sepL_fact h1).1, h, (sepL_fact h1).2, r⟩
theorem SatH.fact_cons {φ : Hp → Prop} {m f : Hp} {w : World} (hx : ∃ k, Hp.le k m ∧ φ k) (hs : SatH H m f w) : SatH (factA φ :: H) m f w := by
  obtain ⟨h, h1, r⟩ := hs
  exact ⟨h, sepL_fact_cons hx h1, r⟩
theorem ent_fact {φ ψ : Hp → Prop} (h : ∀ m, φ m → ψ m) : Ent (factA φ :: H) (factA ψ :: factA φ :: H) := by
  intro x m hs
  obtain ⟨⟨k, hk, hx⟩, hl⟩ := sepL_fact hs
  exact ⟨x, Hp.le_refl _, sepL_fact_cons ⟨k, hk, h k hx⟩ hs⟩
theorem ent_dup {φ : Hp → Prop} : Ent (factA φ :: H) (factA φ :: factA φ :: H) := ent_fact fun _ h => h

/-- a slice whose cells are never written any more -/
def ImmM (sz : Nat) (v : Value) (xs : List Value) (m : Hp) : Prop :=
  (v = .slice none 0 0 ∧ xs = []) ∨ ∃ b e k cap rest, v = .slice (some ⟨b, 0, none⟩) k cap ∧ xs.length = k * sz ∧ m b = some (.cells (xs ++ rest).toArray e (0, 0))
theorem ImmM.mono {sz : Nat} {v : Value} {xs : List Value} {m m' : Hp} (hm : Hp.le m m') (h : ImmM sz v xs m) : ImmM sz v xs m' := by
  rcases h with h | ⟨b, e, k, cap, rest, h1, h2, h3⟩
  · exact .inl h
  · exact .inr ⟨b, e, k, cap, rest, h1, h2, hm _ _ h3⟩
theorem ImmM.one {sz : Nat} {v : Value} {xs : List Value} {m : Hp} (h : ImmM sz v xs m) : v.oneCell' = true := by
  rcases h with ⟨rfl, _⟩ | ⟨b, e, k, cap, rest, rfl, h2, h3⟩ <;> rfl
abbrev immA (sz : Nat) (v : Value) (xs : List Value) : Assn := factA (ImmM sz v xs)

class ImmC (H : List Assn) (u : Value) (sz : outParam Nat) (ys : outParam (List Value)) : Prop where
  get : ∀ h m, sepL H h m → ∃ k, Hp.le k m ∧ ImmM sz u ys k
instance (priority := 1100) ImmC.head {u : Value} {sz : Nat} {ys : List Value} {H : List Assn} : ImmC (factA (ImmM sz u ys) :: H) u sz ys := ⟨fun h m hs => (sepL_fact hs).1⟩
instance (priority := 900) ImmC.tail {A : Assn} {u : Value} {sz : Nat} {ys : List Value} {H : List Assn} [hi : ImmC H u sz ys] : ImmC (A :: H) u sz ys := ⟨fun h m hs => by
  obtain ⟨p, q, _, _, _, hl⟩ := hs
  exact hi.get q m hl⟩
theorem satH_imm {sz : Nat} {v : Value} {xs : List Value} {m f : Hp} {w : World} (hs : SatH (immA sz v xs :: H) m f w) :
    (v = .slice none 0 0 ∧ xs = [] ∧ SatH H m f w) ∨ ∃ b e k cap rest, v = .slice (some ⟨b, 0, none⟩) k cap ∧ xs.length = k * sz ∧ SatH (ro b (.cells (xs ++ rest).toArray e (0, 0)) :: H) m f w := by
  obtain ⟨⟨k0, hk, hx⟩, hl⟩ := SatH.fact hs
  rcases hx with ⟨rfl, rfl⟩ | ⟨b, e, k, cap, rest, rfl, h1, h2⟩
  · exact .inl ⟨rfl, rfl, hl⟩
  · obtain ⟨h, hh, r⟩ := hl
    exact .inr ⟨b, e, k, cap, rest, rfl, h1, h, ⟨Hp.emp, h, Hp.emp_dis _, (Hp.emp_un _).symm, ⟨rfl, hk _ _ h2⟩, hh⟩, r⟩

section
variable {T : List Assn → Prop} (hT : LocG T)
include hT
theorem LocG.fact {φ : Hp → Prop} (h : (∃ k, φ k) → T H) : T (factA φ :: H) := by
  refine hT.step _ (fun H' => (∃ k, φ k) ∧ H' = H) ?_ (by rintro _ ⟨hp, rfl⟩; exact h hp)
  intro m f w hs
  obtain ⟨⟨k, _, hx⟩, hl⟩ := SatH.fact hs
  exact ⟨H, m, ⟨⟨k, hx⟩, rfl⟩, hl, Hp.le_refl m⟩
theorem LocG.knows {φ : Hp → Prop} (h : (∃ k, φ k) → T (factA φ :: H)) : T (factA φ :: H) := by
  refine hT.step _ (fun H' => (∃ k, φ k) ∧ H' = factA φ :: H) ?_ (by rintro _ ⟨hp, rfl⟩; exact h hp)
  intro m f w hs
  obtain ⟨⟨k, _, hx⟩, hl⟩ := SatH.fact hs
  exact ⟨_, m, ⟨⟨k, hx⟩, rfl⟩, hs, Hp.le_refl m⟩
/-- opens a slice that is never written; it stays known -/
theorem LocG.imm {sz : Nat} {v : Value} {xs : List Value} (h0 : v = .slice none 0 0 → xs = [] → T H)
    (h1 : ∀ b e k cap rest, v = .slice (some ⟨b, 0, none⟩) k cap → xs.length = k * sz → T (ro b (.cells (xs ++ rest).toArray e (0, 0)) :: H)) : T (immA sz v xs :: H) := by
  refine hT.step _ (fun H' => (v = .slice none 0 0 ∧ xs = [] ∧ H' = H) ∨ ∃ b e k cap rest, v = .slice (some ⟨b, 0, none⟩) k cap ∧ xs.length = k * sz ∧ H' = ro b (.cells (xs ++ rest).toArray e (0, 0)) :: H) ?_ ?_
  · intro m f w hs
    rcases satH_imm hs with ⟨e1, e2, h⟩ | ⟨b, e, k, cap, rest, e1, e2, h⟩
    · exact ⟨H, m, .inl ⟨e1, e2, rfl⟩, h, Hp.le_refl m⟩
    · exact ⟨_, m, .inr ⟨b, e, k, cap, rest, e1, e2, rfl⟩, h, Hp.le_refl m⟩
  · rintro H' (⟨e1, e2, rfl⟩ | ⟨b, e, k, cap, rest, e0, e1, rfl⟩)
    · exact h0 e1 e2
    · exact h1 b e k cap rest e0 e1
/-- what is owned is given up: it is never written any more -/
theorem LocG.freeze {b : Nat} {o : Obj} (h : T (ro b o :: H)) : T (pt b o :: H) := by
  refine hT.step _ (fun H' => H' = ro b o :: H) ?_ (by rintro _ rfl; exact h)
  rintro m f w ⟨x, ⟨p, q, hd, rfl, rfl, hl⟩, hw, hmw, hfw, hxm, hxf, hmf⟩
  have hle : Hp.le q (Hp.un (Hp.one b o) q) := Hp.le_un_right hd
  have hd1 : Hp.dis (Hp.one b o) m := Hp.dis_of_un_left hxm
  have hd2 : Hp.dis (Hp.one b o) f := Hp.dis_of_un_left hxf
  refine ⟨_, Hp.un (Hp.one b o) m, rfl, ⟨q, ⟨Hp.emp, q, Hp.emp_dis _, (Hp.emp_un _).symm, ⟨rfl, ?_⟩, sepL_mono _ _ _ _ (Hp.le_un_right hd1) hl⟩, Hp.le_trans hle hw, Hp.un_le (Hp.le_trans (Hp.le_un_left _ _) hw) hmw, hfw, ?_, ?_, ?_⟩, Hp.le_un_right hd1⟩
  · simp [Hp.un, Hp.one]
  · exact Hp.dis_un_right (Hp.dis_symm hd) (Hp.dis_of_un_right hd hxm)
  · exact Hp.dis_of_un_right hd hxf
  · exact Hp.dis_un hd2 hmf
theorem LocG.ent {H' : List Assn} (he : Ent H H') (h : T H') : T H :=
  hT.step _ (fun X => X = H') (fun m _ _ hs => ⟨H', m, rfl, hs.ent he, Hp.le_refl m⟩) (by rintro _ rfl; exact h)
theorem LocG.own_imm {sz : Nat} {v : Value} {xs : List Value} (h : T (immA sz v xs :: H)) : T (ownS sz v xs :: H) := by
  refine hT.step _ (fun H' => (v = .slice none 0 0 ∧ xs = [] ∧ H' = H) ∨ ∃ b e k cap rest, v = .slice (some ⟨b, 0, none⟩) k cap ∧ xs.length = k * sz ∧ H' = pt b (.cells (xs ++ rest).toArray e (0, 0)) :: H) ?_ ?_
  · rintro m f w ⟨x, hs, r⟩
    rcases own_cases hs with ⟨e1, e2, h⟩ | ⟨b, e, k, cap, rest, e1, e2, e3, h⟩
    · exact ⟨H, m, .inl ⟨e1, e2, rfl⟩, ⟨x, h, r⟩, Hp.le_refl m⟩
    · exact ⟨_, m, .inr ⟨b, e, k, cap, rest, e1, e2, rfl⟩, ⟨x, h, r⟩, Hp.le_refl m⟩
  · rintro H' (⟨rfl, rfl, rfl⟩ | ⟨b, e, k, cap, rest, rfl, e1, rfl⟩)
    · exact hT.step _ (fun X => X = immA sz (.slice none 0 0) [] :: H') (fun m f w hs => ⟨_, m, rfl, SatH.fact_cons ⟨m, Hp.le_refl m, .inl ⟨rfl, rfl⟩⟩ hs, Hp.le_refl m⟩) (by rintro _ rfl; exact h)
    · refine hT.freeze ?_
      refine hT.ent ?_ h
      rintro x m ⟨p, q, hd, rfl, ⟨rfl, hx⟩, hl⟩
      refine ⟨q, by rw [Hp.emp_un]; exact Hp.le_refl _, sepL_fact_cons ⟨m, Hp.le_refl m, .inr ⟨b, e, k, cap, rest, rfl, e1, hx⟩⟩ hl⟩
/-- opens a slice that is never written; it stays known -/
theorem LocG.immK {sz : Nat} {v : Value} {xs : List Value} [hp : ImmC H v sz xs] (h0 : v = .slice none 0 0 → xs = [] → T H)
    (h1 : ∀ b e k cap rest, v = .slice (some ⟨b, 0, none⟩) k cap → xs.length = k * sz → T (ro b (.cells (xs ++ rest).toArray e (0, 0)) :: H)) : T H := by
  refine hT.ent (H' := immA sz v xs :: H) ?_ (hT.imm h0 h1)
  intro x m hs
  exact ⟨x, Hp.le_refl _, sepL_fact_cons (hp.get x m hs) hs⟩
theorem LocG.own_immK {F : List Assn} {sz : Nat} {v : Value} {xs : List Value} (hp : PickC H (ownS sz v xs) F) (h : T (immA sz v xs :: F)) : T H :=
  hT.ent (fun x m hs => ⟨x, Hp.le_refl _, hp.get x m hs⟩) (hT.own_imm h)
theorem LocG.freezeK {F : List Assn} {b : Nat} {o : Obj} (hp : PickC H (pt b o) F) (h : T (ro b o :: F)) : T H :=
  hT.ent (fun x m hs => ⟨x, Hp.le_refl _, hp.get x m hs⟩) (hT.freeze h)
theorem LocG.fact1 {F : List Assn} {φ ψ : Hp → Prop} (hp : PickC H (factA φ) F) (hi : ∀ m, φ m → ψ m) (h : T (factA ψ :: H)) : T H := by
  refine hT.ent ?_ h
  intro x m hs
  obtain ⟨⟨k, hk, hx⟩, hl⟩ := sepL_fact (hp.get x m hs)
  exact ⟨x, Hp.le_refl _, sepL_fact_cons ⟨k, hk, hi k hx⟩ hs⟩
theorem LocG.fact2 {F1 F2 : List Assn} {φ1 φ2 ψ : Hp → Prop} (hp1 : PickC H (factA φ1) F1) (hp2 : PickC H (factA φ2) F2) (hi : ∀ k1 k2 m, Hp.le k1 m → Hp.le k2 m → φ1 k1 → φ2 k2 → ψ m) (h : T (factA ψ :: H)) : T H := by
  refine hT.ent ?_ h
  intro x m hs
  obtain ⟨⟨k1, hk1, hx1⟩, _⟩ := sepL_fact (hp1.get x m hs)
  obtain ⟨⟨k2, hk2, hx2⟩, _⟩ := sepL_fact (hp2.get x m hs)
  exact ⟨x, Hp.le_refl _, sepL_fact_cons ⟨m, Hp.le_refl m, hi k1 k2 m hk1 hk2 hx1 hx2⟩ hs⟩
theorem LocG.fact0 {ψ : Hp → Prop} (hi : ∀ m, ψ m) (h : T (factA ψ :: H)) : T H := by
  refine hT.ent ?_ h
  intro x m hs
  exact ⟨x, Hp.le_refl _, sepL_fact_cons ⟨m, Hp.le_refl m, hi m⟩ hs⟩
theorem LocG.knowsK {F : List Assn} {φ : Hp → Prop} (hp : PickC H (factA φ) F) (h : (∃ k, φ k) → T H) : T H := by
  refine hT.step _ (fun H' => (∃ k, φ k) ∧ H' = H) ?_ (by rintro _ ⟨hx, rfl⟩; exact h hx)
  rintro m f w ⟨x, hs, r⟩
  obtain ⟨⟨k, hk, hx⟩, hl⟩ := sepL_fact (hp.get x m hs)
  exact ⟨H, m, ⟨⟨k, hx⟩, rfl⟩, ⟨x, hs, r⟩, Hp.le_refl m⟩
end
end

/-- two rows, alike throughout -/
def All2 {α β : Type} (R : α → β → Prop) (l : List α) (r : List β) : Prop := l.length = r.length ∧ ∀ (i : Nat) (h1 : i < l.length) (h2 : i < r.length), R l[i] r[i]
theorem All2.nil {α β : Type} {R : α → β → Prop} : All2 R [] [] := ⟨rfl, fun i h => absurd h (by simp)⟩
theorem All2.imp {α β : Type} {R S : α → β → Prop} {l : List α} {r : List β} (h : All2 R l r) (hi : ∀ a b, R a b → S a b) : All2 S l r := ⟨h.1, fun i h1 h2 => hi _ _ (h.2 i h1 h2)⟩
theorem All2.snoc {α β : Type} {R : α → β → Prop} {l : List α} {r : List β} {a : α} {b : β} (h : All2 R l r) (hab : R a b) : All2 R (l ++ [a]) (r ++ [b]) := by
  refine ⟨by simp [h.1], fun i h1 h2 => ?_⟩
  by_cases hi : i < l.length
  · rw [List.getElem_append_left hi, List.getElem_append_left (by rw [← h.1]; exact hi)]
    exact h.2 i hi _
  · have he : i = l.length := by simp at h1; omega
    subst he
    have h3 := h.1
    simp [h3, hab]
theorem All2.set {α β : Type} {R : α → β → Prop} {l : List α} {r : List β} {a : α} {b : β} (h : All2 R l r) (k : Nat) (hab : R a b) : All2 R (l.set k a) (r.set k b) := by
  refine ⟨by simp [h.1], fun i h1 h2 => ?_⟩
  simp only [List.getElem_set]
  split
  · exact hab
  · exact h.2 i _ _
/-- slices of bytes that are never written -/
abbrev rowsA (vs : List Value) (ss : List (List UInt8)) : Assn := factA fun m => All2 (fun v s => ImmM 1 v (bv s) m) vs ss
section
variable {T : List Assn → Prop} {H : List Assn} (hT : LocG T)
include hT
theorem LocG.rows_nth {F : List Assn} {vs : List Value} {ss : List (List UInt8)} (hp : PickC H (rowsA vs ss) F) (i : Nat) (h1 : i < vs.length) (h2 : i < ss.length) (h : T (immA 1 vs[i] (bv ss[i]) :: H)) : T H :=
  hT.fact1 hp (fun m hm => hm.2 i h1 h2) h
theorem LocG.rows_one {F : List Assn} {vs : List Value} {ss : List (List UInt8)} (hp : PickC H (rowsA vs ss) F) (h : vs.length = ss.length → (∀ v ∈ vs, v.oneCell' = true) → T H) : T H := by
  refine hT.knowsK hp ?_
  rintro ⟨k, hk⟩
  refine h hk.1 fun v hv => ?_
  obtain ⟨i, hi, rfl⟩ := List.mem_iff_getElem.1 hv
  exact (hk.2 i hi (by rw [← hk.1]; exact hi)).one
theorem LocG.rows_snoc {F G : List Assn} {vs : List Value} {ss : List (List UInt8)} {v : Value} {s : List UInt8} (hp : PickC H (rowsA vs ss) F) (hq : PickC H (immA 1 v (bv s)) G) (h : T (rowsA (vs ++ [v]) (ss ++ [s]) :: H)) : T H :=
  hT.fact2 hp hq (fun k1 k2 m h1 h2 hx hy => (hx.imp fun _ _ hi => hi.mono h1).snoc (hy.mono h2)) h
theorem LocG.rows_set {F G : List Assn} {vs : List Value} {ss : List (List UInt8)} {v : Value} {s : List UInt8} (hp : PickC H (rowsA vs ss) F) (hq : PickC H (immA 1 v (bv s)) G) (k : Nat) (h : T (rowsA (vs.set k v) (ss.set k s) :: H)) : T H :=
  hT.fact2 hp hq (fun k1 k2 m h1 h2 hx hy => (hx.imp fun _ _ hi => hi.mono h1).set k (hy.mono h2)) h
theorem LocG.rows_nil (h : T (rowsA [] [] :: H)) : T H := hT.fact0 (fun _ => All2.nil) h
end
theorem ent_dupI {H : List Assn} {sz : Nat} {v : Value} {xs : List Value} : Ent (immA sz v xs :: H) (immA sz v xs :: immA sz v xs :: H) := ent_dup
theorem ent_dupR {H : List Assn} {vs : List Value} {ss : List (List UInt8)} : Ent (rowsA vs ss :: H) (rowsA vs ss :: rowsA vs ss :: H) := ent_dup
section
variable {P : Program} {n : Nat} {Q : Post} {env : Env} {H F G : List Assn} {dst : Option Tmp} {ty : TypeId} {pos : String} {after : Array Edge} {g : Option (Nat × Bool)}
theorem OpRes.mono2 {s : Sem Next} {w : World} {V V' : Value → World → Prop} {C C' : List PanicEntry → World → Prop} (hv : ∀ v w', V v w' → V' v w') (hc : ∀ c w', C c w' → C' c w') (h : OpRes P s w V C) : OpRes P s w V' C' := by
  unfold OpRes at h ⊢
  cases hr : s.run P w with
  | ok x w' =>
    rw [hr] at h
    cases x with
    | value v => exact hv _ _ h
    | skip => exact hv _ _ h
    | enter f args =>
      refine Calls.mono h ?_
      intro e w'' hx
      cases e with
      | returned v => exact hv _ _ hx
      | panicked c => exact hc _ _ hx
      | outgrown => exact hx
    | row row args => exact Rows.mono h fun v w' hx => hv _ _ hx
    | _ => exact h
  | halt x w' =>
    rw [hr] at h
    cases x with
    | panic v => exact hc _ _ h
    | _ => exact h
theorem loc_SOp {o : Oper} {K : Value → List Assn → Prop} : LocG (fun H => SOp P n o Q env H K) := ⟨fun H C hc h a w m f se sh => by
  obtain ⟨H', m', hC, sh', hm⟩ := hc m f w sh
  refine OpRes.mono2 ?_ ?_ (h H' hC a w m' f se sh')
  · rintro v w' ⟨H1, m1, hk, s1, hm1, hs⟩; exact ⟨H1, m1, hk, s1, Hp.le_trans hm hm1, hs⟩
  · rintro v w' ⟨H1, m1, hk, s1, hm1, hs⟩; exact ⟨H1, m1, hk, s1, Hp.le_trans hm hm1, hs⟩⟩
theorem sop_entK {o : Oper} {K : Value → List Assn → Prop} (h : SOp P n o Q env H fun v H' => ∃ H'', Ent H' H'' ∧ K v H'') : SOp P n o Q env H K := by
  intro a w m f se sh
  refine OpRes.mono2 ?_ (fun _ _ h => h) (h a w m f se sh)
  rintro v w' ⟨H1, m1, ⟨H2, he, hk⟩, s1, hm1, hs⟩
  exact ⟨H2, m1, hk, s1.ent he, hm1, hs⟩
theorem ent_tail {A : Assn} : Ent (A :: H) H := by
  rintro x m ⟨p, q, hd, rfl, _, hl⟩
  exact ⟨q, Hp.le_un_right hd, hl⟩
theorem sop_append_imm {t t2 e e2 : TypeId} {agg : Bool} {size bytes k0 k : Nat} {zero : Value} {x y : Operand} {v u : Value} {xs ys : List Value} {K : Value → List Assn → Prop} [hS : SliceC P t e] [hS2 : SliceC P t2 e2] [hE : TyC P e agg size bytes zero] [him : ImmC H u size ys]
    (hx : evS env x = some v) (hy : evS env y = some u) (hown : PickC H (ownS size v xs) F) (hkk : ys.length = k * size) (h1 : ∀ v ∈ ys, v.oneCell' = true) (hz : zero.cells.size = size)
    (hk0 : xs.length = k0 * size) (hb : (k0 + k) * bytes ≤ 140737488355328) (hm : k0 + k ≤ 4611686018427387904) (hs0 : 0 < size)
    (hk : ∀ v', v'.oneCell' = true → K v' (ownS size v' (xs ++ ys) :: F)) : SOp P n ⟨dst, .call ⟨.builtin .append, #[x, y], #[t, t2]⟩, ty, pos, after, g⟩ Q env H K := by
  refine loc_SOp.immK (hp := him) ?_ ?_
  · rintro rfl rfl
    have hk' : k = 0 := by
      rcases Nat.eq_zero_or_pos k with h | h
      · exact h
      · exact absurd (Nat.mul_pos h hs0) (by simp at hkk; omega)
    subst hk'
    exact sop_append (k := 0) hx hy hown shows_nil h1 hz hk0 hb hm hs0 hk
  · rintro b e' k' cap rest rfl hl
    have hkk' : k = k' := Nat.eq_of_mul_eq_mul_right hs0 (hkk.symm.trans hl)
    subst hkk'
    refine sop_entK ?_
    haveI := hown
    refine sop_append (F := ro b (.cells (ys ++ rest).toArray e' (0, 0)) :: F) hx hy inferInstance (shows_seg Seg.head hl) h1 hz hk0 hb hm hs0 fun v' hv' => ⟨ownS size v' (xs ++ ys) :: F, ent_cons ent_tail, hk v' hv'⟩
theorem sop_copy_imm {t t2 e : TypeId} {agg : Bool} {size bytes len cap k : Nat} {zero u : Value} {x y : Operand} {b o : Nat} {c : Array Value} {e' : TypeId} {ys : List Value} {H' : List Assn} {K : Value → List Assn → Prop} [hS : SliceC P t e] [hE : TyC P e agg size bytes zero]
    [hr : RdC H b (.cells c e' (0, 0))] [hw : WrC H b (.cells (putAt c o (ys.take (min k len * size))) e' (0, 0)) H'] [him : ImmC H u size ys] (hx : evS env x = some (.slice (some ⟨b, o, none⟩) len cap)) (hy : evS env y = some u) (hkk : ys.length = k * size)
    (h1 : ∀ v ∈ ys, v.oneCell' = true) (ho : o + len * size ≤ c.size) (hs0 : 0 < size) (hk : K (.int .i64 ((min k len : Nat) : Int)) H') : SOp P n ⟨dst, .call ⟨.builtin .copy, #[x, y], #[t, t2]⟩, ty, pos, after, g⟩ Q env H K := by
  refine loc_SOp.immK (hp := him) ?_ ?_
  · rintro rfl rfl
    have hk' : k = 0 := by
      rcases Nat.eq_zero_or_pos k with h | h
      · exact h
      · exact absurd (Nat.mul_pos h hs0) (by simp at hkk; omega)
    subst hk'
    exact sop_eff (e_copy hx hy shows_nil h1 ho) hk
  · rintro b' e'' k' cap' rest rfl hl
    have hkk' : k = k' := Nat.eq_of_mul_eq_mul_right hs0 (hkk.symm.trans hl)
    subst hkk'
    refine sop_entK ?_
    haveI := hw
    exact sop_eff (e_copy (H' := ro b' (.cells (ys ++ rest).toArray e'' (0, 0)) :: H') hx hy (shows_seg Seg.head hl) h1 ho) ⟨H', ent_tail, hk⟩
theorem q_len_imm {x : Operand} {t e : TypeId} [hS : SliceC P t e] {u : Value} {ys : List Value} {sz k : Nat} [him : ImmC H u sz ys] (hx : evS env x = some u) (hkk : ys.length = k * sz) (hs0 : 0 < sz) :
    Quiet P n ⟨dst, .call ⟨.builtin .len, #[x], #[t]⟩, ty, pos, after, g⟩ env H (.int .i64 (k : Int)) := by
  intro a w m f se sh
  obtain ⟨h, h1, r⟩ := sh
  obtain ⟨k1, _, hi⟩ := him.get h m h1
  rcases hi with ⟨rfl, rfl⟩ | ⟨b, e, k', cap, rest, rfl, hl, _⟩
  · have hk' : k = 0 := by
      rcases Nat.eq_zero_or_pos k with h | h
      · exact h
      · exact absurd (Nat.mul_pos h hs0) (by simp at hkk; omega)
    subst hk'
    exact q_len_slice (H := H) hx a w m f se ⟨h, h1, r⟩
  · have hkk' : k = k' := Nat.eq_of_mul_eq_mul_right hs0 (hkk.symm.trans hl)
    subst hkk'
    exact q_len_slice (H := H) hx a w m f se ⟨h, h1, r⟩
end
theorem xL_known {P : Program} {n : Nat} {Q : Post} {env : Env} {H : List Assn} {ops : Array Oper} {rest : List Oper} {op : Op} {ty : TypeId} {pos : String} {after : Array Edge} {j e : Tmp} {w b c : Bool} {dd : Option Tmp}
    (hj : (ops[j]?).bind (·.dst) = some e) (hb : env.get e = some (.bool b)) (hc : b = c) (h : xL P n ops (⟨dd, op, ty, pos, after, some (j, w)⟩ :: rest) Q env H) : xL P n ops (⟨dd, op, ty, pos, after, some (j, w)⟩ :: rest) Q env H := h
theorem run_known {P : Program} {n : Nat} {Q : Post} {env : Env} {H : List Assn} {ops : Array Oper} {i : Nat} {r : List (Kd × Nat)} {pend : List (Nat × Value)} {op : Op} {ty : TypeId} {pos : String} {after : Array Edge} {j e : Tmp} {w b c : Bool} {k : Kd} {dd : Option Tmp}
    (ho : ops[i]? = some ⟨dd, op, ty, pos, after, some (j, w)⟩) (hj : dstOf ops j = some e) (hb : env.get e = some (.bool b)) (hc : b = c) (h : RunP P n ops Q ((k, i) :: r) pend env H) : RunP P n ops Q ((k, i) :: r) pend env H := h
section
variable {P : Program} {n : Nat} {Q : Post} {env : Env} {H : List Assn} {ops : Array Oper} {i : Nat} {r : List (Kd × Nat)} {pend : List (Nat × Value)} {op : Op} {ty : TypeId} {pos : String} {after : Array Edge}
theorem run_ey' {dd : Option Tmp} {j e : Tmp} {want b : Bool} (pend' : List (Nat × Value)) (ho : ops[i]? = some ⟨dd, op, ty, pos, after, some (j, want)⟩) (hj : dstOf ops j = some e) (hb : env.get e = some (.bool b)) (hbw : b = want)
    (hst : stillE after pend = pend') (h : SOp P n ⟨dd, op, ty, pos, after, some (j, want)⟩ Q env H fun v H' => pendOk P n ops (putE env dd v) H' pend' ∧ RunP P n ops Q r pend' (putE env dd v) H') : RunP P n ops Q ((.e, i) :: r) pend env H := by
  refine ⟨_, ho, .inl ⟨by unfold GuardYes; exact ⟨e, b, hj, hb, hbw⟩, ?_⟩⟩
  rw [still_eq, hst]
  exact h
theorem pend_cons_y {dd : Option Tmp} {j e : Tmp} {want b : Bool} {v : Value} {l : List (Nat × Value)} (ho : ops[i]? = some ⟨dd, op, ty, pos, after, some (j, want)⟩) (hj : dstOf ops j = some e) (hb : env.get e = some (.bool b)) (hbw : b = want)
    (hq : Quiet P n ⟨dd, op, ty, pos, after, some (j, want)⟩ env H v) (h : pendOk P n ops env H l) : pendOk P n ops env H ((i, v) :: l) := by
  refine ⟨⟨_, ho, ?_⟩, h⟩
  unfold Tells
  exact ⟨e, b, hj, hb, .inl ⟨hbw, hq⟩⟩
end
/-- a place where the walk shall halt -/
def STOP (p : Prop) : Prop := p
theorem halt {p : Prop} (h : STOP p) : p := h
theorem go {p : Prop} (h : p) : STOP p := h
theorem ent_own_all {H : List Assn} {sz b e k : Nat} {xs : List Value} (h1 : xs.length = k * sz) :
    Ent (pt b (.cells xs.toArray e (0, 0)) :: H) (ownS sz (.slice (some ⟨b, 0, none⟩) k k) xs :: H) := by
  have := ent_own (H := H) (sz := sz) (b := b) (e := e) (k := k) (cap := k) (xs := xs) (rest := []) h1 (by simpa using h1)
  simpa using this
end Go.SL
