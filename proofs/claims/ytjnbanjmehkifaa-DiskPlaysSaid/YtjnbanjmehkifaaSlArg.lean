/- What came in: from the readings of the arguments to what the walks ask for; and back. -/
import Derived.Test.YtjnbanjmehkifaaSlAuto
import Derived.ProofKit
import Derived.SizedLaws
import Derived.Deep.Slices
namespace Go.SL
open Go.ChangeShapes Go.WideShapes Go.RowKit Go.Deep
set_option linter.unusedVariables false
section
variable {H : Type} {enc : TypeId × Value → H} {P : Program} {w : World} {base : Nat} {spare : Nat → Bool} {held : Bool}
theorem cellsOf_ty {t : TypeId} {agg : Bool} {size bytes : Nat} {zero : Value} [h : TyC P t agg size bytes zero] : P.cellsOf t = size := by
  have := h.size
  simp [Program.cellsOf, this]
theorem bytesOf_ty {t : TypeId} {agg : Bool} {size bytes : Nat} {zero : Value} [h : TyC P t agg size bytes zero] : P.bytesOf t = bytes := by
  have := h.bytes
  simp [Program.bytesOf, this]
theorem cell_at {a : Addr} {v : Value} (h : w.cell? a = some v) : a.spot = none ∧ ∃ c e fr, w.heap[a.block]? = some (.cells c e fr) ∧ c[a.off]? = some v := by
  unfold World.cell? at h
  split at h
  · rename_i c e fr hb
    split at h
    · cases h
    · rename_i hs
      exact ⟨by simpa using hs, c, e, fr, hb, h⟩
  · cases h
theorem Seg.nil_of {c : Array Value} {o : Nat} (h : o ≤ c.size) : Seg c o [] := ⟨by simpa using h, fun i hi => absurd hi (by simp)⟩
theorem Seg.append {c : Array Value} {o : Nat} {l r : List Value} (h1 : Seg c o l) (h2 : Seg c (o + l.length) r) : Seg c o (l ++ r) := by
  refine ⟨by have := h2.1; simp; omega, fun i hi => ?_⟩
  by_cases hl : i < l.length
  · rw [List.getElem?_append_left hl]; exact h1.2 i hl
  · rw [List.getElem?_append_right (by omega)]
    have := h2.2 (i - l.length) (by simp at hi; omega)
    rw [← this]; congr 1; omega
/-- a slice that came in -/
theorem trod_rds {t e : TypeId} {agg : Bool} {sz bytes : Nat} {zero : Value} [hS : SliceC P t e] [hE : TyC P e agg sz bytes zero] (hs : 0 < sz) {fuel : Nat} {v : Value} {x : DataW H × List MemPlace} (h : DataW.trod enc P w 0 spare held fuel t [v] = some x) :
    ∃ (p : Option Addr) (len cap n : Nat) (C : Nat → List Value) (D : Nat → DataW H) (sp : List (DataW H)), v = .slice p len cap ∧ (x.1 = .slice ((List.range len).map D) sp ∨ x.1 = .nil ∧ len = 0) ∧
      RdS sz v ((List.range len).flatMap C) (hpOf w) ∧ ∀ i, i < len → (C i).length = sz ∧ ∃ pl, DataW.trod enc P w 0 spare held n e (C i) = some (D i, pl) := by
  rcases open_slice hS.get h with ⟨h1, h2⟩ | ⟨a, len, cap, m, n, D, Pl, h1, _, hl, hm, hmm, hx, hi⟩
  · simp only [List.cons.injEq, and_true] at h1
    subst h1 h2
    exact ⟨none, 0, 0, 0, fun _ => [], fun _ => .nil, [], rfl, .inr ⟨rfl, rfl⟩, ⟨none, 0, 0, rfl, by simp, .inl rfl⟩, fun i h => absurd h (by omega)⟩
  · simp only [List.cons.injEq, and_true] at h1
    subst h1 hx
    have hlm : len ≤ m := by rw [hmm]; split <;> omega
    have hsz := cellsOf_ty (h := hE)
    rw [hsz] at hi
    obtain ⟨C, hC⟩ := choose_lt (α := List Value) (p := fun i cs => w.cells? 0 (a.add (i * sz)) sz = some cs ∧ DataW.trod enc P w 0 spare held n e cs = some (D i, Pl i)) (n := len) (fun i hi' => hi i (by omega))
    have hlen : ∀ i, i < len → (C i).length = sz := fun i h => (World.cells?_some (hC i h).1).2.1
    refine ⟨some a, len, cap, n, C, D, _, rfl, .inl rfl, ?_, fun i h => ⟨hlen i h, Pl i, (hC i h).2⟩⟩
    have hfl : ∀ k, k ≤ len → ((List.range k).flatMap C).length = k * sz := by
      intro k
      induction k with
      | zero => intro _; simp
      | succ k ih => intro hk; rw [List.range_succ, List.flatMap_append, List.length_append, ih (by omega)]; simp [hlen k (by omega), Nat.add_mul]
    rcases Nat.eq_zero_or_pos len with h0 | hpos
    · subst h0
      exact ⟨some a, 0, cap, rfl, by simp, .inl rfl⟩
    · have hcell : ∀ i j, i < len → j < sz → w.cell? (a.add (i * sz + j)) = (C i)[j]? := by
        intro i j hi' hj
        have := (World.cells?_some (hC i hi').1).2.2 j hj
        rw [Deep.add_add] at this
        exact this
      have h00 := hcell 0 0 hpos hs
      simp only [Nat.zero_mul, Nat.add_zero] at h00
      have ha : a.add 0 = a := by simp [Addr.add]
      rw [ha] at h00
      have h01 : (C 0)[0]? = some ((C 0)[0]'(by rw [hlen 0 hpos]; exact hs)) := List.getElem?_eq_getElem _
      obtain ⟨hsp, c, e', fr, hb, hc0⟩ := cell_at (h00.trans h01)
      obtain ⟨b, o, sp⟩ := a
      simp only at hsp
      subst hsp
      refine ⟨some ⟨b, o, none⟩, len, cap, rfl, hfl len (Nat.le_refl _), .inr ⟨b, o, c, e', fr, rfl, hb, ?_⟩⟩
      have hget : ∀ i j, i < len → j < sz → c[o + (i * sz + j)]? = (C i)[j]? := by
        intro i j hi' hj
        have := hcell i j hi' hj
        rw [add_none] at this
        rw [← this]
        have hb' : w.heap[b]? = some (.cells c e' fr) := hb
        unfold World.cell?
        simp only [hb', Option.isSome_none, Bool.false_eq_true, if_false]
      have hall : ∀ k, k ≤ len → Seg c o ((List.range k).flatMap C) := by
        intro k
        induction k with
        | zero =>
          intro _
          have : o < c.size := (Array.getElem?_eq_some_iff.1 hc0).1
          exact Seg.nil_of (by omega)
        | succ k ih =>
          intro hk
          rw [List.range_succ, List.flatMap_append]
          refine (ih (by omega)).append ?_
          rw [hfl k (by omega)]
          simp only [List.flatMap_cons, List.flatMap_nil, List.append_nil]
          have hlk := hlen k (by omega)
          refine ⟨?_, fun i hi' => ?_⟩
          · have h3 := hget k (sz - 1) (by omega) (by omega)
            rw [List.getElem?_eq_getElem (show sz - 1 < (C k).length by omega)] at h3
            have := (Array.getElem?_eq_some_iff.1 h3).1
            omega
          · rw [Nat.add_assoc]; exact hget k i (by omega) (by omega)
      exact hall len (Nat.le_refl _)
theorem trod_i64 {t : TypeId} [hI : IntC P t .i64] {fuel : Nat} {v : Value} {x : DataW H × List MemPlace} (h : DataW.trod enc P w base spare held fuel t [v] = some x) : ∃ n : Int, v = .int .i64 n ∧ -9223372036854775808 ≤ n ∧ n ≤ 9223372036854775807 := by
  obtain ⟨n, h1, _, hw⟩ := DataW.trod_int hI.get h
  simp only [List.cons.injEq, and_true] at h1
  refine ⟨n, h1, ?_⟩
  simpa [Lit.wf, IntKind.min, IntKind.max, IntKind.signed, IntKind.bits] using hw
theorem trod_u8 {t : TypeId} [hI : IntC P t .u8] {fuel : Nat} {v : Value} {x : DataW H × List MemPlace} (h : DataW.trod enc P w base spare held fuel t [v] = some x) : ∃ n : UInt8, v = u8v n := by
  obtain ⟨n, h1, _, hw⟩ := DataW.trod_int hI.get h
  simp only [List.cons.injEq, and_true] at h1
  have : 0 ≤ n ∧ n ≤ 255 := by simpa [Lit.wf, IntKind.min, IntKind.max, IntKind.signed, IntKind.bits] using hw
  refine ⟨UInt8.ofNat n.toNat, ?_⟩
  rw [h1]
  simp only [u8v, Value.int.injEq, true_and]
  have h2 : (UInt8.ofNat n.toNat).toNat = n.toNat := by simp [UInt8.toNat_ofNat']; omega
  rw [h2]; omega
/-- a slice of ints that came in -/
theorem trod_ints {t e : TypeId} {bytes : Nat} {zero : Value} [hS : SliceC P t e] [hE : TyC P e false 1 bytes zero] [hI : IntC P e .i64] {fuel : Nat} {v : Value} {x : DataW H × List MemPlace} (h : DataW.trod enc P w 0 spare held fuel t [v] = some x) :
    ∃ (p : Option Addr) (cap : Nat) (ks : List Int), v = .slice p ks.length cap ∧ RdS 1 v (ks.map (.int .i64)) (hpOf w) ∧ (∃ D sp, x.1 = .slice D sp ∧ D.length = ks.length ∨ x.1 = .nil ∧ ks.length = 0) ∧ ∀ k ∈ ks, -9223372036854775808 ≤ k ∧ k ≤ 9223372036854775807 := by
  obtain ⟨p, len, cap, n, C, D, sp, hv, hx, hr, hi⟩ := trod_rds (hE := hE) (by omega) h
  obtain ⟨z, hz⟩ := choose_lt (α := Int) (p := fun i k => C i = [.int .i64 k] ∧ -9223372036854775808 ≤ k ∧ k ≤ 9223372036854775807) (n := len) (fun i h => by
    obtain ⟨h1, pl, h2⟩ := hi i h
    match hc : C i, h1 with
    | [c], _ =>
      rw [hc] at h2
      obtain ⟨k, hk, hb⟩ := trod_i64 h2
      exact ⟨k, by rw [hk], hb⟩)
  have e1 : ∀ k, k ≤ len → (List.range k).flatMap C = ((List.range k).map z).map (Value.int .i64) := by
    intro k
    induction k with
    | zero => intro _; rfl
    | succ k ih => intro hk; rw [List.range_succ, List.flatMap_append, ih (by omega)]; simp [(hz k (by omega)).1]
  rw [e1 len (Nat.le_refl _)] at hr
  refine ⟨p, cap, (List.range len).map z, by simpa using hv, hr, ?_, ?_⟩
  · rcases hx with h | ⟨h, h0⟩
    · exact ⟨_, sp, .inl ⟨h, by simp⟩⟩
    · exact ⟨[], [], .inr ⟨h, by simpa using h0⟩⟩
  · intro k hk
    obtain ⟨i, hi', rfl⟩ := List.mem_map.1 hk
    exact (hz i (List.mem_range.1 hi')).2
end
/-- from a contract to a call over a whole world -/
theorem does_run {P : Program} {f : FuncId} {args : Array Value} {φ : Hp → Prop} {V : Value} (h : Does P f args [factA φ] (Ret fun v H' => v = V ∧ H' = [])) (W : World) (hφ : φ (hpOf W)) :
    Calls P f args W fun e W' => e = .returned V ∧ Below W.heap.size W W' := by
  have hs : SatH [factA φ] (hpOf W) Hp.emp W :=
    ⟨Hp.emp, ⟨Hp.emp, Hp.emp, Hp.emp_dis _, (Hp.emp_un _).symm, ⟨rfl, hpOf W, Hp.le_refl _, hφ⟩, rfl⟩, Hp.emp_le _, Hp.le_refl _, Hp.emp_le _, Hp.emp_dis _, Hp.emp_dis _, Hp.dis_emp _⟩
  refine (h W _ _ hs).mono ?_
  rintro e W' ⟨H', m', hR, ⟨x, _, _, hm, _⟩, hle, hstr⟩
  have hkeep : ∀ k, k < W.heap.size → W'.heap[k]? = W.heap[k]? := by
    intro k hk
    have h1 : hpOf W k = some W.heap[k] := by simp [hpOf, hk]
    have h2 := hm _ _ (hle _ _ h1)
    have h3 : W'.heap[k]? = some W.heap[k] := h2
    rw [h3]; simp [hk]
  have hsize : W.heap.size ≤ W'.heap.size := by
    rcases Nat.eq_zero_or_pos W.heap.size with h0 | hpos
    · omega
    · have h1 := hkeep (W.heap.size - 1) (by omega)
      rw [Array.getElem?_eq_getElem (show W.heap.size - 1 < W.heap.size by omega)] at h1
      have := (Array.getElem?_eq_some_iff.1 h1).1
      omega
  cases e with
  | returned v =>
    obtain ⟨rfl, _⟩ := hR
    exact ⟨rfl, hstr.os, hstr.tape, hstr.output, hsize, hkeep⟩
  | panicked c => exact hR.elim
  | outgrown => exact hR.elim
section
variable {H : Type} {enc : TypeId × Value → H} {P : Program}
/-- the row's last step, where of the world behind the call is known that all old blocks are as they were -/
theorem post_of_kept {f : Func} {s : ChangeSpec} {apart fresh handsOn again : Bool} {W W' : World} {args : Array Value} {v : Value} {ds gs : List (DataW H)} {before pa pv : List MemPlace}
    (hW : DataW.Whole enc P f.params.toList s.vars apart W args.toList ds gs before)
    (hres : ∀ (b : Nat) (sp : Nat → Bool) (hd : Bool), DataW.TrodAll enc P W' b sp hd f.resultTypes.toList (v.resultList f.resultTypes.size) (s.fn H (ds ++ gs)).results [])
    (hargs : ∀ sp : Nat → Bool, (∀ p ∈ before, sp p.block = true) → DataW.TrodAll enc P W' 0 sp true f.params.toList args.toList (s.fn H (ds ++ gs)).args pa)
    (hvars : ∀ sp : Nat → Bool, (∀ p ∈ before, sp p.block = true) → DataW.TrodVars enc P W' sp s.vars (s.fn H (ds ++ gs)).vars pv)
    (hps : before = pa ++ pv) (hb : Below W.heap.size W W')
    (hok : ∀ (j : Nat) (t : TypeId) (r : Value), f.resultTypes[j]? = some t → (v.resultList f.resultTypes.size)[j]? = some r → Value.okWide P W' .any 0 t r) :
    s.post enc P f apart fresh handsOn again W args v W' := by
  have hlt : ∀ p ∈ before, p.block < W.heap.size := fun p hp => hW.lt p hp
  have hold : ∀ p ∈ before, (fun b => decide (b < W.heap.size)) p.block = true := fun p hp => by simpa using hlt p hp
  have hfrz : ∀ a : Addr, a.block < W.heap.size → W'.frozen? a = W.frozen? a := fun a ha => by simp only [World.frozen?, hb.block a.block ha]
  refine ⟨ds, gs, before, [], pa, pv, hW, hres _ _ _, hargs _ hold, hvars _ hold, World.keptBut_mono (fun p hp => ⟨hp, by rw [hps, List.mem_append] at hp; exact .inr hp⟩) (hb.frame (· ∈ before)), fun _ => ?_⟩
  obtain ⟨_, _, _, _, _, hz, hn⟩ := hW
  refine ⟨hok, _, _, ([] ++ pa) ++ pv, ⟨[] ++ pa, pv, trodAll_append (hargs _ (fun _ _ => rfl)) (hres _ _ _), hvars _ (fun _ _ => rfl), rfl, fun b off hp => ?_, fun ha => ?_⟩, fun p hp _ => by rw [hps]; simpa using hp⟩
  · have hin : MemPlace.cell b off ∈ before := by rw [hps]; simpa using hp
    rw [hfrz _ (hlt _ hin)]
    exact hz b off hin
  · have := hn ha
    rw [hps] at this
    simpa using this
end
end Go.SL
