/- The disk: what each of its functions does. -/
import Derived.Test.YtjnbanjmehkifaaTy
namespace Go.Proofs.Ytjnbanjmehkifaa
open Go.SL
set_option maxRecDepth 20000
set_option linter.unusedSimpArgs false
set_option linter.unusedVariables false
attribute [local irreducible] thenS inBlockS noGotoS Quiet SOp xW xL Does RunP AnyS Tells Eff New OpRes SatH pt ro roAll pureA exA allA STOP

abbrev Sec := List UInt8
def encS (s : Sec) : Value := .agg (bv s).toArray
def wcells : List (Int × Sec) → List Value
  | [] => []
  | (k, s) :: l => .int .i64 k :: (bv s ++ wcells l)
structure Dk where
  len : Int
  sure : List (Int × Sec)
  now : List (Int × Sec)
  waits : List (Int × Sec)
  off : Bool
  fuse : Int
  steps : Int

structure DkOk (D : Dk) : Prop where
  l1 : 1 ≤ D.len
  l2 : D.len ≤ 8192
  f1 : -1 ≤ D.fuse
  f2 : D.fuse ≤ 9223372036854775807
  sure : ∀ k s, (k, s) ∈ D.sure → s.length = 64
  now : ∀ k s, (k, s) ∈ D.now → s.length = 64
  waits : ∀ k s, (k, s) ∈ D.waits → s.length = 64

def dCells (D : Dk) (bs bn : Nat) (wv : Value) : Array Value := #[.int .i64 D.len, .map (some bs), .map (some bn), wv, .bool D.off, .int .i64 D.fuse, .int .i64 D.steps]
def diskL (bd : Nat) (D : Dk) (x : Nat × Nat × Value) : List Assn :=
  [pureA (DkOk D), pt bd (.cells #[.int .i64 D.len, .map (some x.1), .map (some x.2.1), x.2.2, .bool D.off, .int .i64 D.fuse, .int .i64 D.steps] 92 (0, 0)), mapA encS x.1 D.sure, mapA encS x.2.1 D.now, ownS 65 x.2.2 (wcells D.waits)]
def diskA (bd : Nat) (D : Dk) : Assn := exA (diskL bd D)

theorem disk_open {P : Program} {f : FuncId} {args : Array Value} {R : Ending → List Assn → Prop} {bd : Nat} {D : Dk} {H : List Assn}
    (h : ∀ bs bn wv, DkOk D → Does P f args (pt bd (.cells #[.int .i64 D.len, .map (some bs), .map (some bn), wv, .bool D.off, .int .i64 D.fuse, .int .i64 D.steps] 92 (0, 0)) :: mapA encS bs D.sure :: mapA encS bn D.now :: ownS 65 wv (wcells D.waits) :: H) R) : Does P f args (diskA bd D :: H) R := by
  refine Does.ex fun ⟨bs, bn, wv⟩ => ?_
  simp only [diskL, List.cons_append, List.nil_append]
  exact Does.pure fun hok => h bs bn wv hok
theorem disk_openL {P : Program} {n : Nat} {Q : Post} {env : Env} {ops : Array Oper} {l : List Oper} {bd : Nat} {D : Dk} {H : List Assn}
    (h : ∀ bs bn wv, DkOk D → xL P n ops l Q env (pt bd (.cells #[.int .i64 D.len, .map (some bs), .map (some bn), wv, .bool D.off, .int .i64 D.fuse, .int .i64 D.steps] 92 (0, 0)) :: mapA encS bs D.sure :: mapA encS bn D.now :: ownS 65 wv (wcells D.waits) :: H)) : xL P n ops l Q env (diskA bd D :: H) :=
  xL.ex fun ⟨bs, bn, wv⟩ => xL.pure fun hok => h bs bn wv hok
theorem disk_openW {P : Program} {n : Nat} {Q : Post} {env : Env} {c : Code} {bd : Nat} {D : Dk} {H : List Assn}
    (h : ∀ bs bn wv, DkOk D → xW P n c Q env (pt bd (.cells #[.int .i64 D.len, .map (some bs), .map (some bn), wv, .bool D.off, .int .i64 D.fuse, .int .i64 D.steps] 92 (0, 0)) :: mapA encS bs D.sure :: mapA encS bn D.now :: ownS 65 wv (wcells D.waits) :: H)) : xW P n c Q env (diskA bd D :: H) :=
  xW.ex fun ⟨bs, bn, wv⟩ => xW.pure fun hok => h bs bn wv hok
theorem disk_fact {P : Program} {f : FuncId} {args : Array Value} {R : Ending → List Assn → Prop} {bd : Nat} {D : Dk} {H : List Assn} (h : DkOk D → Does P f args (diskA bd D :: H) R) : Does P f args (diskA bd D :: H) R := by
  refine Does.cases (fun H' => DkOk D ∧ H' = diskA bd D :: H) ?_ (by rintro _ ⟨hp, rfl⟩; exact h hp)
  rintro y m hs
  have hs2 := hs
  obtain ⟨x, q, hd, rfl, hx, hl⟩ := hs
  have hok : DkOk D := by
    unfold diskA exA at hx
    obtain ⟨z, z1, z2, _, _, hz, _⟩ := hx
    unfold pureA at hz
    exact hz.2
  exact ⟨_, ⟨hok, rfl⟩, _, Hp.le_refl _, hs2⟩
theorem disk_shut {H F : List Assn} (bd bs bn : Nat) (wv : Value) (D : Dk) (hok : DkOk D)
    (ht : TakeC H [pt bd (.cells #[.int .i64 D.len, .map (some bs), .map (some bn), wv, .bool D.off, .int .i64 D.fuse, .int .i64 D.steps] 92 (0, 0)), mapA encS bs D.sure, mapA encS bn D.now, ownS 65 wv (wcells D.waits)] F) : Ent H (diskA bd D :: F) := by
  refine (Ent.take ht).trans ?_
  have h1 := ent_ex (A := diskL bd D) (H := F) (bs, bn, wv)
  refine Ent.trans ?_ h1
  simp only [diskL, List.cons_append, List.nil_append]
  exact ent_pure hok

def Dk.step (D : Dk) : Dk := if D.fuse = 0 then { D with off := true, fuse := -1 } else { D with fuse := if 0 < D.fuse then D.fuse - 1 else D.fuse, steps := IntKind.i64.wrap (D.steps + 1) }
def Dk.stepE (D : Dk) : Int := if D.fuse = 0 then 2 else 0
theorem Dk.step_ok {D : Dk} (h : DkOk D) : DkOk D.step := by
  have := h.f1
  have := h.f2
  unfold Dk.step
  split
  · exact ⟨h.l1, h.l2, by simp, by simp, h.sure, h.now, h.waits⟩
  · refine ⟨h.l1, h.l2, ?_, ?_, h.sure, h.now, h.waits⟩ <;> simp only <;> split <;> omega

theorem step_does (bd : Nat) (D : Dk) : Does Try.prog 64 #[.pointer (some ⟨bd, 0, none⟩)] [diskA bd D] (Ret fun v H' => v = .int .i64 D.stepE ∧ H' = [diskA bd D.step]) := by
  refine disk_open fun bs bn wv hok => ?_
  have h1 := hok.f1
  have h2 := hok.f2
  have hok' := Dk.step_ok hok
  refine spec_of Try.func64 rfl Try.ntmps64 (congrArg Array.toList Try.results64) (Nat.le_of_ble_eq_true rfl) ?_
  simp only [argEnv, Nat.zero_add, Nat.reduceAdd]
  (repeat' (first | (apply xL_q; exact wqa; exact rfl) | refine xL_nil ?_ | refine wtn ?_ | refine xW_seq ?_ | refine xW_region ?_ | refine run_nil ?_ | refine wtr ?_ | refine wtx ?_ | refine wbn ?_ | refine wbr ?_ | refine wbx ?_ | refine wbk rfl ?_ | refine wgn ?_ | refine wgr ?_ | refine wgx ?_ | (apply run_p; exact rfl; intro _; exact wqa) | (apply run_h; exact rfl; exact wqa) | (apply xL_e; exact wea; exact rfl) | (apply xL_e0; exact wea) | (apply xL_n; exact wna; exact rfl; intro b) | (apply Re; exact rfl; exact wea; exact wpa) | (apply Rg; exact rfl; exact wea; exact wpa) | (apply Rn; exact rfl; exact wna; intro _; exact wpa; intro b) | (refine Lc rfl ?_ rfl ?_; exact wsa) | (refine Lc0 rfl ?_ ?_; exact wsa) | (refine Lm rfl ?_ rfl (fun b => ?_); exact wsa) | (refine Rc rfl rfl ?_ ?_ ?_; exact wsa; exact wpa) | (refine Rc0 rfl rfl ?_ ?_ ?_; exact wsa; exact wpa) | (refine Rm rfl rfl ?_ (fun b => ?_) (fun b => ?_); exact wsa; exact wpa) | (apply xL_gyt; exact rfl; exact rfl; assumption; exact wqa; exact rfl) | (apply xL_gyf; exact rfl; exact rfl; assumption; exact wqa; exact rfl) | (refine Lyc rfl rfl rfl (by assumption) ?_ rfl ?_; exact wsa) | (refine Lym rfl rfl rfl (by assumption) ?_ rfl (fun b => ?_); exact wsa) | refine xL_gnt rfl rfl (by assumption) rfl ?_ | refine xL_gnf rfl rfl (by assumption) rfl ?_ | ((fail_if_success (refine xL_known (c := true) rfl rfl (by assumption) ?_)); (fail_if_success (refine xL_known (c := false) rfl rfl (by assumption) ?_)); (refine xL_split rfl rfl (fun hg => ?_) (fun hg => ?_) <;> (try (exfalso; have hg2 := hg; simp only [decide_eq_true_eq, decide_eq_false_iff_not] at hg2; omega)) <;> (try (exfalso; have hg3 := hg; simp at hg3; done)))) | refine xW_skip ?_ | refine xW_ret ?_ | refine xW_exit ?_ | refine xW_block ?_ | refine xW_scope ?_ | refine xW_label ?_ | refine xW_cond_true rfl (by first | rfl | assumption) ?_ | refine xW_cond_false rfl (by first | rfl | assumption) ?_ | (refine xW_cond rfl (fun hc => ?_) (fun hc => ?_) <;> (try simp only [decide_eq_true_eq, decide_eq_false_iff_not, Bool.not_eq_true', Bool.not_eq_false', Bool.and_eq_true, Bool.or_eq_true, Bool.cond_true_left, Bool.cond_false_right, Decidable.not_not, ne_eq, Bool.and_eq_false_iff, Bool.or_eq_false_iff] at hc) <;> (try contradiction) <;> (try (exfalso; omega)))))
  all_goals
    refine ⟨_, [diskA bd D.step], rfl, ?_, ?_, rfl⟩
    · refine disk_shut bd bs bn wv D.step hok' ?_
      simp only [Dk.step, *, if_true, if_false]
      infer_instance
    · simp only [Dk.stepE, *, if_true, if_false]; rfl

def Dk.check (D : Dk) (i : Int) : Int := if D.off = true then 2 else if i < 0 then 10 else if D.len ≤ i then 10 else 0

theorem check_does (bd : Nat) (D : Dk) (i : Int) : Does Try.prog 63 #[.pointer (some ⟨bd, 0, none⟩), .int .i64 i] [diskA bd D] (Ret fun v H' => v = .int .i64 (D.check i) ∧ H' = [diskA bd D]) := by
  refine disk_open fun bs bn wv hok => ?_
  refine spec_of Try.func63 rfl Try.ntmps63 (congrArg Array.toList Try.results63) (Nat.le_of_ble_eq_true rfl) ?_
  simp only [argEnv, Nat.zero_add, Nat.reduceAdd]
  (repeat' (first | (apply xL_q; exact wqa; exact rfl) | refine xL_nil ?_ | refine wtn ?_ | refine xW_seq ?_ | refine xW_region ?_ | refine run_nil ?_ | refine wtr ?_ | refine wtx ?_ | refine wbn ?_ | refine wbr ?_ | refine wbx ?_ | refine wbk rfl ?_ | refine wgn ?_ | refine wgr ?_ | refine wgx ?_ | (apply run_p; exact rfl; intro _; exact wqa) | (apply run_h; exact rfl; exact wqa) | (apply xL_e; exact wea; exact rfl) | (apply xL_e0; exact wea) | (apply xL_n; exact wna; exact rfl; intro b) | (apply Re; exact rfl; exact wea; exact wpa) | (apply Rg; exact rfl; exact wea; exact wpa) | (apply Rn; exact rfl; exact wna; intro _; exact wpa; intro b) | (refine Lc rfl ?_ rfl ?_; exact wsa) | (refine Lc0 rfl ?_ ?_; exact wsa) | (refine Lm rfl ?_ rfl (fun b => ?_); exact wsa) | (refine Rc rfl rfl ?_ ?_ ?_; exact wsa; exact wpa) | (refine Rc0 rfl rfl ?_ ?_ ?_; exact wsa; exact wpa) | (refine Rm rfl rfl ?_ (fun b => ?_) (fun b => ?_); exact wsa; exact wpa) | (apply xL_gyt; exact rfl; exact rfl; assumption; exact wqa; exact rfl) | (apply xL_gyf; exact rfl; exact rfl; assumption; exact wqa; exact rfl) | (refine Lyc rfl rfl rfl (by assumption) ?_ rfl ?_; exact wsa) | (refine Lym rfl rfl rfl (by assumption) ?_ rfl (fun b => ?_); exact wsa) | refine xL_gnt rfl rfl (by assumption) rfl ?_ | refine xL_gnf rfl rfl (by assumption) rfl ?_ | ((fail_if_success (refine xL_known (c := true) rfl rfl (by assumption) ?_)); (fail_if_success (refine xL_known (c := false) rfl rfl (by assumption) ?_)); (refine xL_split rfl rfl (fun hg => ?_) (fun hg => ?_) <;> (try (exfalso; have hg2 := hg; simp only [decide_eq_true_eq, decide_eq_false_iff_not] at hg2; omega)) <;> (try (exfalso; have hg3 := hg; simp at hg3; done)))) | refine xW_skip ?_ | refine xW_ret ?_ | refine xW_exit ?_ | refine xW_block ?_ | refine xW_scope ?_ | refine xW_label ?_ | refine xW_cond_true rfl (by first | rfl | assumption) ?_ | refine xW_cond_false rfl (by first | rfl | assumption) ?_ | (refine xW_cond rfl (fun hc => ?_) (fun hc => ?_) <;> (try simp only [decide_eq_true_eq, decide_eq_false_iff_not, Bool.not_eq_true', Bool.not_eq_false', Bool.and_eq_true, Bool.or_eq_true, Bool.cond_true_left, Bool.cond_false_right, Decidable.not_not, ne_eq, Bool.and_eq_false_iff, Bool.or_eq_false_iff] at hc) <;> (try contradiction) <;> (try (exfalso; omega)))))
  all_goals
    refine ⟨_, [diskA bd D], rfl, disk_shut bd bs bn wv D hok inferInstance, ?_, rfl⟩
    simp_all [Dk.check, oneOr]
    try omega

def Dk.write (D : Dk) (i : Int) (s : Sec) : Dk :=
  if D.check i ≠ 0 then D else if s.length ≠ 64 then D else if D.stepE ≠ 0 then D.step else { D.step with now := aput D.now i s, waits := D.waits ++ [(i, s)] }
def Dk.writeE (D : Dk) (i : Int) (s : Sec) : Int :=
  if D.check i ≠ 0 then D.check i else if s.length ≠ 64 then 11 else D.stepE

theorem wcells_append (l r : List (Int × Sec)) : wcells (l ++ r) = wcells l ++ wcells r := by
  induction l with
  | nil => rfl
  | cons p l ih => obtain ⟨k, s⟩ := p; simp [wcells, ih]
theorem wcells_length (l : List (Int × Sec)) (h : ∀ k s, (k, s) ∈ l → s.length = 64) : (wcells l).length = l.length * 65 := by
  induction l with
  | nil => rfl
  | cons p l ih =>
    obtain ⟨k, s⟩ := p
    have h1 := h k s (List.mem_cons_self ..)
    have h2 := ih fun k s hm => h k s (List.mem_cons_of_mem _ hm)
    simp [wcells, h1, h2]; omega
theorem mem_aput {α : Type} {l : List (Int × α)} {k : Int} {x : α} {p : Int × α} (h : p ∈ aput l k x) : p = (k, x) ∨ p ∈ l := by
  induction l with
  | nil => simp [aput] at h; exact .inl h
  | cons q l ih =>
    obtain ⟨j, y⟩ := q
    simp only [aput] at h
    split at h
    · rcases List.mem_cons.1 h with h | h
      · exact .inl h
      · exact .inr (List.mem_cons_of_mem _ h)
    · rcases List.mem_cons.1 h with h | h
      · exact .inr (h ▸ List.mem_cons_self ..)
      · exact (ih h).imp id (List.mem_cons_of_mem _)
theorem Dk.write_ok {D : Dk} (h : DkOk D) (i : Int) (s : Sec) : DkOk (D.write i s) := by
  unfold Dk.write
  split
  · exact h
  split
  · exact h
  split
  · exact Dk.step_ok h
  · rename_i h1 h2 h3
    have hs := Dk.step_ok h
    have h64 : s.length = 64 := by simpa using h2
    refine ⟨hs.l1, hs.l2, hs.f1, hs.f2, hs.sure, ?_, ?_⟩
    · intro k t hm
      rcases mem_aput hm with e | e
      · cases e; exact h64
      · exact h.now k t e
    · intro k t hm
      rcases List.mem_append.1 hm with e | e
      · exact h.waits k t e
      · simp only [List.mem_singleton, Prod.mk.injEq] at e; rw [e.2]; exact h64

theorem write_does (bd : Nat) (D : Dk) (i : Int) (A : Assn) (b o cap : Nat) (c : Array Value) (e : TypeId) (fr : Nat × Nat) (s : Sec) [hA : LendC A b (.cells c e fr)] (hs : Seg c o (bv s)) (hw : D.waits.length < 1000000000000) :
    Does Try.prog 16 #[.pointer (some ⟨bd, 0, none⟩), .int .i64 i, .slice (some ⟨b, o, none⟩) s.length cap] [diskA bd D, A] (Ret fun v H' => v = .int .i64 (D.writeE i s) ∧ H' = [diskA bd (D.write i s), A]) := by
  refine disk_fact fun hok0 => ?_
  refine spec_of Try.func16 rfl Try.ntmps16 (congrArg Array.toList Try.results16) (Nat.le_of_ble_eq_true rfl) ?_
  simp only [argEnv, Nat.zero_add, Nat.reduceAdd]
  (repeat' (first | (apply xL_q; exact wqa; exact rfl) | refine xL_nil ?_ | refine wtn ?_ | refine xW_seq ?_ | refine xW_region ?_ | refine run_nil ?_ | refine wtr ?_ | refine wtx ?_ | refine wbn ?_ | refine wbr ?_ | refine wbx ?_ | refine wbk rfl ?_ | refine wgn ?_ | refine wgr ?_ | refine wgx ?_ | (apply run_p; exact rfl; intro _; exact wqa) | (apply run_h; exact rfl; exact wqa) | refine xW_plan (id := 9) [(.p, 0), (.p, 1), (.p, 2), (.h, 3), (.p, 4), (.p, 5), (.p, 6), (.h, 7), (.e, 8)] (by kernel_rfl) (by kernel_rfl) (by kernel_rfl) ?_ | refine xW_plan (id := 10) [(.p, 0), (.p, 1), (.p, 2), (.p, 3), (.h, 4), (.p, 5), (.p, 6), (.p, 7), (.h, 8), (.p, 9), (.e, 10), (.e, 11), (.p, 12), (.p, 13), (.e, 14)] (by kernel_rfl) (by kernel_rfl) (by kernel_rfl) ?_ | (apply xL_e; exact wea; exact rfl) | (apply xL_e0; exact wea) | (apply xL_n; exact wna; exact rfl; intro b) | (apply Re; exact rfl; exact wea; exact wpa) | (apply Rg; exact rfl; exact wea; exact wpa) | (apply Rn; exact rfl; exact wna; intro _; exact wpa; intro b) | (refine Lc rfl ?_ rfl ?_; exact wsa) | (refine Lc0 rfl ?_ ?_; exact wsa) | (refine Lm rfl ?_ rfl (fun b => ?_); exact wsa) | (refine Rc rfl rfl ?_ ?_ ?_; exact wsa; exact wpa) | (refine Rc0 rfl rfl ?_ ?_ ?_; exact wsa; exact wpa) | (refine Rm rfl rfl ?_ (fun b => ?_) (fun b => ?_); exact wsa; exact wpa) | (apply xL_gyt; exact rfl; exact rfl; assumption; exact wqa; exact rfl) | (apply xL_gyf; exact rfl; exact rfl; assumption; exact wqa; exact rfl) | (refine Lyc rfl rfl rfl (by assumption) ?_ rfl ?_; exact wsa) | (refine Lym rfl rfl rfl (by assumption) ?_ rfl (fun b => ?_); exact wsa) | refine xL_gnt rfl rfl (by assumption) rfl ?_ | refine xL_gnf rfl rfl (by assumption) rfl ?_ | ((fail_if_success (refine xL_known (c := true) rfl rfl (by assumption) ?_)); (fail_if_success (refine xL_known (c := false) rfl rfl (by assumption) ?_)); (refine xL_split rfl rfl (fun hg => ?_) (fun hg => ?_) <;> (try (exfalso; have hg2 := hg; simp only [decide_eq_true_eq, decide_eq_false_iff_not] at hg2; omega)) <;> (try (exfalso; have hg3 := hg; simp at hg3; done)))) | (apply run_pyt; exact rfl; exact rfl; exact rfl; assumption; (intro _; exact wqa)) | (apply run_pyf; exact rfl; exact rfl; exact rfl; assumption; (intro _; exact wqa)) | (apply run_hyt; exact rfl; exact rfl; exact rfl; assumption; exact wqa) | (apply run_hyf; exact rfl; exact rfl; exact rfl; assumption; exact wqa) | refine run_pnt rfl rfl rfl (by assumption) ?_ | refine run_pnf rfl rfl rfl (by assumption) ?_ | refine run_hnt rfl rfl rfl (by assumption) ?_ | refine run_hnf rfl rfl rfl (by assumption) ?_ | (refine Ryc rfl rfl rfl rfl (by assumption) ?_ ?_ ?_; exact wsa; exact wpa) | (refine Rym rfl rfl rfl rfl (by assumption) ?_ (fun b => ?_) (fun b => ?_); exact wsa; exact wpa) | (refine Ren rfl rfl rfl (by assumption) ?_; dsimp only [putE]) | (refine Ren' rfl rfl rfl (by assumption) ?_; dsimp only [putE]) | ((fail_if_success (refine run_known (c := true) rfl rfl rfl (by assumption) ?_)); (fail_if_success (refine run_known (c := false) rfl rfl rfl (by assumption) ?_)); (refine run_split rfl rfl rfl (fun hg => ?_) (fun hg => ?_) <;> (try (exfalso; have hg2 := hg; simp only [decide_eq_true_eq, decide_eq_false_iff_not] at hg2; omega)) <;> (try (exfalso; have hg3 := hg; simp at hg3; done)))) | refine xW_skip ?_ | refine xW_ret ?_ | refine xW_exit ?_ | refine xW_block ?_ | refine xW_scope ?_ | refine xW_label ?_ | refine xW_cond_true rfl (by first | rfl | assumption) ?_ | refine xW_cond_false rfl (by first | rfl | assumption) ?_ | (refine xW_cond rfl (fun hc => ?_) (fun hc => ?_) <;> (try simp only [decide_eq_true_eq, decide_eq_false_iff_not, Bool.not_eq_true', Bool.not_eq_false', Bool.and_eq_true, Bool.or_eq_true, Bool.cond_true_left, Bool.cond_false_right, Decidable.not_not, ne_eq, Bool.and_eq_false_iff, Bool.or_eq_false_iff] at hc) <;> (try contradiction) <;> (try (exfalso; omega)))))
  refine xL_call (check_does bd D i) rfl rfl ?_
  rintro v H' ⟨rfl, rfl⟩
  simp only [List.cons_append, List.nil_append]
  (repeat' (first | (apply xL_q; exact wqa; exact rfl) | refine xL_nil ?_ | refine wtn ?_ | refine xW_seq ?_ | refine xW_region ?_ | refine run_nil ?_ | refine wtr ?_ | refine wtx ?_ | refine wbn ?_ | refine wbr ?_ | refine wbx ?_ | refine wbk rfl ?_ | refine wgn ?_ | refine wgr ?_ | refine wgx ?_ | (apply run_p; exact rfl; intro _; exact wqa) | (apply run_h; exact rfl; exact wqa) | refine xW_plan (id := 9) [(.p, 0), (.p, 1), (.p, 2), (.h, 3), (.p, 4), (.p, 5), (.p, 6), (.h, 7), (.e, 8)] (by kernel_rfl) (by kernel_rfl) (by kernel_rfl) ?_ | refine xW_plan (id := 10) [(.p, 0), (.p, 1), (.p, 2), (.p, 3), (.h, 4), (.p, 5), (.p, 6), (.p, 7), (.h, 8), (.p, 9), (.e, 10), (.e, 11), (.p, 12), (.p, 13), (.e, 14)] (by kernel_rfl) (by kernel_rfl) (by kernel_rfl) ?_ | (apply xL_e; exact wea; exact rfl) | (apply xL_e0; exact wea) | (apply xL_n; exact wna; exact rfl; intro b) | (apply Re; exact rfl; exact wea; exact wpa) | (apply Rg; exact rfl; exact wea; exact wpa) | (apply Rn; exact rfl; exact wna; intro _; exact wpa; intro b) | (refine Lc rfl ?_ rfl ?_; exact wsa) | (refine Lc0 rfl ?_ ?_; exact wsa) | (refine Lm rfl ?_ rfl (fun b => ?_); exact wsa) | (refine Rc rfl rfl ?_ ?_ ?_; exact wsa; exact wpa) | (refine Rc0 rfl rfl ?_ ?_ ?_; exact wsa; exact wpa) | (refine Rm rfl rfl ?_ (fun b => ?_) (fun b => ?_); exact wsa; exact wpa) | (apply xL_gyt; exact rfl; exact rfl; assumption; exact wqa; exact rfl) | (apply xL_gyf; exact rfl; exact rfl; assumption; exact wqa; exact rfl) | (refine Lyc rfl rfl rfl (by assumption) ?_ rfl ?_; exact wsa) | (refine Lym rfl rfl rfl (by assumption) ?_ rfl (fun b => ?_); exact wsa) | refine xL_gnt rfl rfl (by assumption) rfl ?_ | refine xL_gnf rfl rfl (by assumption) rfl ?_ | ((fail_if_success (refine xL_known (c := true) rfl rfl (by assumption) ?_)); (fail_if_success (refine xL_known (c := false) rfl rfl (by assumption) ?_)); (refine xL_split rfl rfl (fun hg => ?_) (fun hg => ?_) <;> (try (exfalso; have hg2 := hg; simp only [decide_eq_true_eq, decide_eq_false_iff_not] at hg2; omega)) <;> (try (exfalso; have hg3 := hg; simp at hg3; done)))) | (apply run_pyt; exact rfl; exact rfl; exact rfl; assumption; (intro _; exact wqa)) | (apply run_pyf; exact rfl; exact rfl; exact rfl; assumption; (intro _; exact wqa)) | (apply run_hyt; exact rfl; exact rfl; exact rfl; assumption; exact wqa) | (apply run_hyf; exact rfl; exact rfl; exact rfl; assumption; exact wqa) | refine run_pnt rfl rfl rfl (by assumption) ?_ | refine run_pnf rfl rfl rfl (by assumption) ?_ | refine run_hnt rfl rfl rfl (by assumption) ?_ | refine run_hnf rfl rfl rfl (by assumption) ?_ | (refine Ryc rfl rfl rfl rfl (by assumption) ?_ ?_ ?_; exact wsa; exact wpa) | (refine Rym rfl rfl rfl rfl (by assumption) ?_ (fun b => ?_) (fun b => ?_); exact wsa; exact wpa) | (refine Ren rfl rfl rfl (by assumption) ?_; dsimp only [putE]) | (refine Ren' rfl rfl rfl (by assumption) ?_; dsimp only [putE]) | ((fail_if_success (refine run_known (c := true) rfl rfl rfl (by assumption) ?_)); (fail_if_success (refine run_known (c := false) rfl rfl rfl (by assumption) ?_)); (refine run_split rfl rfl rfl (fun hg => ?_) (fun hg => ?_) <;> (try (exfalso; have hg2 := hg; simp only [decide_eq_true_eq, decide_eq_false_iff_not] at hg2; omega)) <;> (try (exfalso; have hg3 := hg; simp at hg3; done)))) | refine xW_skip ?_ | refine xW_ret ?_ | refine xW_exit ?_ | refine xW_block ?_ | refine xW_scope ?_ | refine xW_label ?_ | refine xW_cond_true rfl (by first | rfl | assumption) ?_ | refine xW_cond_false rfl (by first | rfl | assumption) ?_ | (refine xW_cond rfl (fun hc => ?_) (fun hc => ?_) <;> (try simp only [decide_eq_true_eq, decide_eq_false_iff_not, Bool.not_eq_true', Bool.not_eq_false', Bool.and_eq_true, Bool.or_eq_true, Bool.cond_true_left, Bool.cond_false_right, Decidable.not_not, ne_eq, Bool.and_eq_false_iff, Bool.or_eq_false_iff] at hc) <;> (try contradiction) <;> (try (exfalso; omega)))))
  · refine ⟨_, [diskA bd D, A], rfl, Ent.refl _, ?_, ?_⟩
    · simp [Dk.writeE, hc, oneOr]
    · simp [Dk.write, hc]
  · refine ⟨_, [diskA bd D, A], rfl, Ent.refl _, ?_, ?_⟩
    · have : s.length ≠ 64 := by omega
      simp_all [Dk.writeE, oneOr]
    · have : s.length ≠ 64 := by omega
      simp_all [Dk.write]
  refine xL_call (step_does bd D) rfl rfl ?_
  rintro v H' ⟨rfl, rfl⟩
  simp only [List.cons_append, List.nil_append]
  refine disk_openL fun bs bn wv hok => ?_
  have h64 : s.length = 64 := by omega
  (repeat' (first | (apply xL_q; (first | exact q_arrayAt rfl (by omega) | exact q_load_seg rfl hs (by simp; omega) | exact q_build_one_agg rfl rfl (by simp; omega) (by simp)); exact rfl) | (apply xL_q; exact wqa; exact rfl) | (apply run_p; exact rfl; (intro H'; (first | exact q_arrayAt rfl (by omega) | exact q_load_seg rfl hs (by simp; omega) | exact q_build_one_agg rfl rfl (by simp; omega) (by simp)))) | (apply run_h; exact rfl; (first | exact q_arrayAt rfl (by omega) | exact q_load_seg rfl hs (by simp; omega) | exact q_build_one_agg rfl rfl (by simp; omega) (by simp))) | refine xL_nil ?_ | refine wtn ?_ | refine xW_seq ?_ | refine xW_region ?_ | refine run_nil ?_ | refine wtr ?_ | refine wtx ?_ | refine wbn ?_ | refine wbr ?_ | refine wbx ?_ | refine wbk rfl ?_ | refine wgn ?_ | refine wgr ?_ | refine wgx ?_ | (apply run_p; exact rfl; intro _; exact wqa) | (apply run_h; exact rfl; exact wqa) | refine xW_plan (id := 9) [(.p, 0), (.p, 1), (.p, 2), (.h, 3), (.p, 4), (.p, 5), (.p, 6), (.h, 7), (.e, 8)] (by kernel_rfl) (by kernel_rfl) (by kernel_rfl) ?_ | refine xW_plan (id := 10) [(.p, 0), (.p, 1), (.p, 2), (.p, 3), (.h, 4), (.p, 5), (.p, 6), (.p, 7), (.h, 8), (.p, 9), (.e, 10), (.e, 11), (.p, 12), (.p, 13), (.e, 14)] (by kernel_rfl) (by kernel_rfl) (by kernel_rfl) ?_ | (apply xL_e; exact wea; exact rfl) | (apply xL_e0; exact wea) | (apply xL_n; exact wna; exact rfl; intro b) | (apply Re; exact rfl; exact wea; exact (by (repeat' (first | exact trivial | (refine pend_cons rfl rfl ?_ ?_; first | exact q_arrayAt rfl (by omega) | exact q_load_seg rfl hs (by simp; omega) | exact q_build_one_agg rfl rfl (by simp; omega) (by simp) | exact wqa) | (refine pend_cons_y rfl rfl rfl (by assumption) ?_ ?_; first | exact q_arrayAt rfl (by omega) | exact q_load_seg rfl hs (by simp; omega) | exact q_build_one_agg rfl rfl (by simp; omega) (by simp) | exact wqa))))) | (apply Rg; exact rfl; exact wea; exact (by (repeat' (first | exact trivial | (refine pend_cons rfl rfl ?_ ?_; first | exact q_arrayAt rfl (by omega) | exact q_load_seg rfl hs (by simp; omega) | exact q_build_one_agg rfl rfl (by simp; omega) (by simp) | exact wqa) | (refine pend_cons_y rfl rfl rfl (by assumption) ?_ ?_; first | exact q_arrayAt rfl (by omega) | exact q_load_seg rfl hs (by simp; omega) | exact q_build_one_agg rfl rfl (by simp; omega) (by simp) | exact wqa))))) | (apply Rn; exact rfl; exact wna; intro _; exact (by (repeat' (first | exact trivial | (refine pend_cons rfl rfl ?_ ?_; first | exact q_arrayAt rfl (by omega) | exact q_load_seg rfl hs (by simp; omega) | exact q_build_one_agg rfl rfl (by simp; omega) (by simp) | exact wqa) | (refine pend_cons_y rfl rfl rfl (by assumption) ?_ ?_; first | exact q_arrayAt rfl (by omega) | exact q_load_seg rfl hs (by simp; omega) | exact q_build_one_agg rfl rfl (by simp; omega) (by simp) | exact wqa)))); intro b) | (apply xL_op; exact rfl; exact rfl; (first | refine sop_eff (e_mapUpdate (enc := encS) rfl rfl rfl) ?_ | refine sop_new (n_buildSlice1 rfl (by simp; omega) (by omega)) (fun b => ?_)); dsimp only [putE]) | (refine run_e' _ rfl rfl ?_; (first | refine sop_eff (e_mapUpdate (enc := encS) rfl rfl rfl) ?_ | refine sop_new (n_buildSlice1 rfl (by simp; omega) (by omega)) (fun b => ?_)); dsimp only [putE]; refine ⟨(by (repeat' (first | exact trivial | (refine pend_cons rfl rfl ?_ ?_; first | exact q_arrayAt rfl (by omega) | exact q_load_seg rfl hs (by simp; omega) | exact q_build_one_agg rfl rfl (by simp; omega) (by simp) | exact wqa) | (refine pend_cons_y rfl rfl rfl (by assumption) ?_ ?_; first | exact q_arrayAt rfl (by omega) | exact q_load_seg rfl hs (by simp; omega) | exact q_build_one_agg rfl rfl (by simp; omega) (by simp) | exact wqa)))), ?_⟩) | (refine Lc rfl ?_ rfl ?_; exact wsa) | (refine Lc0 rfl ?_ ?_; exact wsa) | (refine Lm rfl ?_ rfl (fun b => ?_); exact wsa) | (refine Rc rfl rfl ?_ ?_ ?_; exact wsa; exact (by (repeat' (first | exact trivial | (refine pend_cons rfl rfl ?_ ?_; first | exact q_arrayAt rfl (by omega) | exact q_load_seg rfl hs (by simp; omega) | exact q_build_one_agg rfl rfl (by simp; omega) (by simp) | exact wqa) | (refine pend_cons_y rfl rfl rfl (by assumption) ?_ ?_; first | exact q_arrayAt rfl (by omega) | exact q_load_seg rfl hs (by simp; omega) | exact q_build_one_agg rfl rfl (by simp; omega) (by simp) | exact wqa))))) | (refine Rc0 rfl rfl ?_ ?_ ?_; exact wsa; exact (by (repeat' (first | exact trivial | (refine pend_cons rfl rfl ?_ ?_; first | exact q_arrayAt rfl (by omega) | exact q_load_seg rfl hs (by simp; omega) | exact q_build_one_agg rfl rfl (by simp; omega) (by simp) | exact wqa) | (refine pend_cons_y rfl rfl rfl (by assumption) ?_ ?_; first | exact q_arrayAt rfl (by omega) | exact q_load_seg rfl hs (by simp; omega) | exact q_build_one_agg rfl rfl (by simp; omega) (by simp) | exact wqa))))) | (refine Rm rfl rfl ?_ (fun b => ?_) (fun b => ?_); exact wsa; exact (by (repeat' (first | exact trivial | (refine pend_cons rfl rfl ?_ ?_; first | exact q_arrayAt rfl (by omega) | exact q_load_seg rfl hs (by simp; omega) | exact q_build_one_agg rfl rfl (by simp; omega) (by simp) | exact wqa) | (refine pend_cons_y rfl rfl rfl (by assumption) ?_ ?_; first | exact q_arrayAt rfl (by omega) | exact q_load_seg rfl hs (by simp; omega) | exact q_build_one_agg rfl rfl (by simp; omega) (by simp) | exact wqa))))) | (apply xL_gyt; exact rfl; exact rfl; assumption; exact wqa; exact rfl) | (apply xL_gyf; exact rfl; exact rfl; assumption; exact wqa; exact rfl) | (refine Lyc rfl rfl rfl (by assumption) ?_ rfl ?_; exact wsa) | (refine Lym rfl rfl rfl (by assumption) ?_ rfl (fun b => ?_); exact wsa) | refine xL_gnt rfl rfl (by assumption) rfl ?_ | refine xL_gnf rfl rfl (by assumption) rfl ?_ | (apply xL_gyt; exact rfl; exact rfl; assumption; (first | exact q_arrayAt rfl (by omega) | exact q_load_seg rfl hs (by simp; omega) | exact q_build_one_agg rfl rfl (by simp; omega) (by simp)); exact rfl) | (apply xL_gyf; exact rfl; exact rfl; assumption; (first | exact q_arrayAt rfl (by omega) | exact q_load_seg rfl hs (by simp; omega) | exact q_build_one_agg rfl rfl (by simp; omega) (by simp)); exact rfl) | ((fail_if_success (refine xL_known (c := true) rfl rfl (by assumption) ?_)); (fail_if_success (refine xL_known (c := false) rfl rfl (by assumption) ?_)); (refine xL_split rfl rfl (fun hg => ?_) (fun hg => ?_) <;> (try (exfalso; have hg2 := hg; simp only [decide_eq_true_eq, decide_eq_false_iff_not] at hg2; omega)) <;> (try (exfalso; have hg3 := hg; simp at hg3; done)))) | (apply run_pyt; exact rfl; exact rfl; exact rfl; assumption; (intro _; exact wqa)) | (apply run_pyf; exact rfl; exact rfl; exact rfl; assumption; (intro _; exact wqa)) | (apply run_hyt; exact rfl; exact rfl; exact rfl; assumption; exact wqa) | (apply run_hyf; exact rfl; exact rfl; exact rfl; assumption; exact wqa) | refine run_pnt rfl rfl rfl (by assumption) ?_ | refine run_pnf rfl rfl rfl (by assumption) ?_ | refine run_hnt rfl rfl rfl (by assumption) ?_ | refine run_hnf rfl rfl rfl (by assumption) ?_ | (refine Ryc rfl rfl rfl rfl (by assumption) ?_ ?_ ?_; exact wsa; exact (by (repeat' (first | exact trivial | (refine pend_cons rfl rfl ?_ ?_; first | exact q_arrayAt rfl (by omega) | exact q_load_seg rfl hs (by simp; omega) | exact q_build_one_agg rfl rfl (by simp; omega) (by simp) | exact wqa) | (refine pend_cons_y rfl rfl rfl (by assumption) ?_ ?_; first | exact q_arrayAt rfl (by omega) | exact q_load_seg rfl hs (by simp; omega) | exact q_build_one_agg rfl rfl (by simp; omega) (by simp) | exact wqa))))) | (refine Rym rfl rfl rfl rfl (by assumption) ?_ (fun b => ?_) (fun b => ?_); exact wsa; exact (by (repeat' (first | exact trivial | (refine pend_cons rfl rfl ?_ ?_; first | exact q_arrayAt rfl (by omega) | exact q_load_seg rfl hs (by simp; omega) | exact q_build_one_agg rfl rfl (by simp; omega) (by simp) | exact wqa) | (refine pend_cons_y rfl rfl rfl (by assumption) ?_ ?_; first | exact q_arrayAt rfl (by omega) | exact q_load_seg rfl hs (by simp; omega) | exact q_build_one_agg rfl rfl (by simp; omega) (by simp) | exact wqa))))) | (refine Ren rfl rfl rfl (by assumption) ?_; dsimp only [putE]) | (refine Ren' rfl rfl rfl (by assumption) ?_; dsimp only [putE]) | ((fail_if_success (refine run_known (c := true) rfl rfl rfl (by assumption) ?_)); (fail_if_success (refine run_known (c := false) rfl rfl rfl (by assumption) ?_)); (refine run_split rfl rfl rfl (fun hg => ?_) (fun hg => ?_) <;> (try (exfalso; have hg2 := hg; simp only [decide_eq_true_eq, decide_eq_false_iff_not] at hg2; omega)) <;> (try (exfalso; have hg3 := hg; simp at hg3; done)))) | refine xW_skip ?_ | refine xW_ret ?_ | refine xW_exit ?_ | refine xW_block ?_ | refine xW_scope ?_ | refine xW_label ?_ | refine xW_cond_true rfl (by first | rfl | assumption) ?_ | refine xW_cond_false rfl (by first | rfl | assumption) ?_ | (refine xW_cond rfl (fun hc => ?_) (fun hc => ?_) <;> (try simp only [decide_eq_true_eq, decide_eq_false_iff_not, Bool.not_eq_true', Bool.not_eq_false', Bool.and_eq_true, Bool.or_eq_true, Bool.cond_true_left, Bool.cond_false_right, Decidable.not_not, ne_eq, Bool.and_eq_false_iff, Bool.or_eq_false_iff] at hc) <;> (try contradiction) <;> (try (exfalso; omega)))))
  · refine ⟨_, [diskA bd D.step, A], rfl, (disk_shut bd bs bn wv D.step hok inferInstance).trans (Ent.drop inferInstance), ?_, ?_⟩
    · simp_all [Dk.writeE, oneOr]
    · simp_all [Dk.write]
  have hwl := wcells_length D.step.waits hok.waits
  have hws : D.step.waits = D.waits := by unfold Dk.step; split <;> rfl
  have hns : D.step.now = D.now := by unfold Dk.step; split <;> rfl
  refine run_e' [(8, _)] rfl rfl (sop_append (k := 1) rfl rfl inferInstance (shows_seg (Seg.whole _) (by simp [h64])) ?_ (by simp [Value.cells]) hwl ?_ ?_ (by omega) fun v' hv' => ⟨(by (repeat' (first | exact trivial | (refine pend_cons rfl rfl ?_ ?_; first | exact q_load_seg rfl hs (by simp; omega) | exact wqa)))), ?_⟩)
  · intro v hv
    rcases List.mem_cons.1 hv with rfl | hv
    · rfl
    · exact bv_one s v hv
  · rw [hws]; omega
  · rw [hws]; omega
  dsimp only [putE]
  (repeat' (first | (apply xL_q; exact wqa; exact rfl) | refine xL_nil ?_ | refine wtn ?_ | refine xW_seq ?_ | refine xW_region ?_ | refine run_nil ?_ | refine wtr ?_ | refine wtx ?_ | refine wbn ?_ | refine wbr ?_ | refine wbx ?_ | refine wbk rfl ?_ | refine wgn ?_ | refine wgr ?_ | refine wgx ?_ | (apply run_p; exact rfl; intro _; exact wqa) | (apply run_h; exact rfl; exact wqa) | refine xW_plan (id := 9) [(.p, 0), (.p, 1), (.p, 2), (.h, 3), (.p, 4), (.p, 5), (.p, 6), (.h, 7), (.e, 8)] (by kernel_rfl) (by kernel_rfl) (by kernel_rfl) ?_ | refine xW_plan (id := 10) [(.p, 0), (.p, 1), (.p, 2), (.p, 3), (.h, 4), (.p, 5), (.p, 6), (.p, 7), (.h, 8), (.p, 9), (.e, 10), (.e, 11), (.p, 12), (.p, 13), (.e, 14)] (by kernel_rfl) (by kernel_rfl) (by kernel_rfl) ?_ | (apply xL_e; exact wea; exact rfl) | (apply xL_e0; exact wea) | (apply xL_n; exact wna; exact rfl; intro b) | (apply Re; exact rfl; exact wea; exact wpa) | (apply Rg; exact rfl; exact wea; exact wpa) | (apply Rn; exact rfl; exact wna; intro _; exact wpa; intro b) | (refine Lc rfl ?_ rfl ?_; exact wsa) | (refine Lc0 rfl ?_ ?_; exact wsa) | (refine Lm rfl ?_ rfl (fun b => ?_); exact wsa) | (refine Rc rfl rfl ?_ ?_ ?_; exact wsa; exact wpa) | (refine Rc0 rfl rfl ?_ ?_ ?_; exact wsa; exact wpa) | (refine Rm rfl rfl ?_ (fun b => ?_) (fun b => ?_); exact wsa; exact wpa) | (apply xL_gyt; exact rfl; exact rfl; assumption; exact wqa; exact rfl) | (apply xL_gyf; exact rfl; exact rfl; assumption; exact wqa; exact rfl) | (refine Lyc rfl rfl rfl (by assumption) ?_ rfl ?_; exact wsa) | (refine Lym rfl rfl rfl (by assumption) ?_ rfl (fun b => ?_); exact wsa) | refine xL_gnt rfl rfl (by assumption) rfl ?_ | refine xL_gnf rfl rfl (by assumption) rfl ?_ | ((fail_if_success (refine xL_known (c := true) rfl rfl (by assumption) ?_)); (fail_if_success (refine xL_known (c := false) rfl rfl (by assumption) ?_)); (refine xL_split rfl rfl (fun hg => ?_) (fun hg => ?_) <;> (try (exfalso; have hg2 := hg; simp only [decide_eq_true_eq, decide_eq_false_iff_not] at hg2; omega)) <;> (try (exfalso; have hg3 := hg; simp at hg3; done)))) | (apply run_pyt; exact rfl; exact rfl; exact rfl; assumption; (intro _; exact wqa)) | (apply run_pyf; exact rfl; exact rfl; exact rfl; assumption; (intro _; exact wqa)) | (apply run_hyt; exact rfl; exact rfl; exact rfl; assumption; exact wqa) | (apply run_hyf; exact rfl; exact rfl; exact rfl; assumption; exact wqa) | refine run_pnt rfl rfl rfl (by assumption) ?_ | refine run_pnf rfl rfl rfl (by assumption) ?_ | refine run_hnt rfl rfl rfl (by assumption) ?_ | refine run_hnf rfl rfl rfl (by assumption) ?_ | (refine Ryc rfl rfl rfl rfl (by assumption) ?_ ?_ ?_; exact wsa; exact wpa) | (refine Rym rfl rfl rfl rfl (by assumption) ?_ (fun b => ?_) (fun b => ?_); exact wsa; exact wpa) | (refine Ren rfl rfl rfl (by assumption) ?_; dsimp only [putE]) | (refine Ren' rfl rfl rfl (by assumption) ?_; dsimp only [putE]) | ((fail_if_success (refine run_known (c := true) rfl rfl rfl (by assumption) ?_)); (fail_if_success (refine run_known (c := false) rfl rfl rfl (by assumption) ?_)); (refine run_split rfl rfl rfl (fun hg => ?_) (fun hg => ?_) <;> (try (exfalso; have hg2 := hg; simp only [decide_eq_true_eq, decide_eq_false_iff_not] at hg2; omega)) <;> (try (exfalso; have hg3 := hg; simp at hg3; done)))) | refine xW_skip ?_ | refine xW_ret ?_ | refine xW_exit ?_ | refine xW_block ?_ | refine xW_scope ?_ | refine xW_label ?_ | refine xW_cond_true rfl (by first | rfl | assumption) ?_ | refine xW_cond_false rfl (by first | rfl | assumption) ?_ | (refine xW_cond rfl (fun hc => ?_) (fun hc => ?_) <;> (try simp only [decide_eq_true_eq, decide_eq_false_iff_not, Bool.not_eq_true', Bool.not_eq_false', Bool.and_eq_true, Bool.or_eq_true, Bool.cond_true_left, Bool.cond_false_right, Decidable.not_not, ne_eq, Bool.and_eq_false_iff, Bool.or_eq_false_iff] at hc) <;> (try contradiction) <;> (try (exfalso; omega)))))
  have hD : D.write i s = { D.step with now := aput D.now i s, waits := D.waits ++ [(i, s)] } := by simp [Dk.write, *]
  have e1 : wcells D.step.waits ++ Value.int IntKind.i64 i :: bv s = wcells (D.waits ++ [(i, s)]) := by rw [wcells_append, hws]; simp [wcells]
  have hok2 := Dk.write_ok hok0 i s
  rw [e1, hns]
  refine ⟨_, [diskA bd (D.write i s), A], rfl, ?_, ?_, rfl⟩
  · rw [hD] at hok2 ⊢
    exact (disk_shut bd bs bn v' _ hok2 inferInstance).trans (Ent.drop inferInstance)
  · have h6 : ¬ s.length ≠ 64 := by omega
    have h7 : ¬ D.check i ≠ 0 := by simp [*]
    simp only [Dk.writeE, if_neg h6, if_neg h7, hc]
    rfl

/-! reading -/
def zsec : Sec := List.replicate 64 0
def Dk.read (D : Dk) (i : Int) : Sec := (aget D.now i).getD zsec
theorem Dk.read_len {D : Dk} (h : DkOk D) (i : Int) : (D.read i).length = 64 := by
  unfold Dk.read
  cases hg : aget D.now i with
  | none => simp [zsec]
  | some s =>
    have : (i, s) ∈ D.now := by
      generalize D.now = l at hg
      induction l with
      | nil => simp [aget] at hg
      | cons p l ih =>
        obtain ⟨j, y⟩ := p
        simp only [aget] at hg
        split at hg
        · subst_vars; simp at hg; subst hg; exact List.mem_cons_self ..
        · exact List.mem_cons_of_mem _ (ih hg)
    exact h.now i s this

theorem enc_read (D : Dk) (i : Int) : (((aget D.now i).map encS).getD (Value.agg (Array.replicate 64 (Value.int .u8 0)))) = Value.agg (bv (D.read i)).toArray := by
  unfold Dk.read
  cases hg : aget D.now i with
  | none =>
    show Value.agg (Array.replicate 64 (Value.int .u8 0)) = Value.agg (bv zsec).toArray
    unfold zsec bv
    rw [List.map_replicate, ← List.toArray_replicate]
    rfl
  | some s => simp [encS]

theorem putAt_all (c : Array Value) (l : List Value) (h : c.size = l.length) : putAt c 0 l = l.toArray := by
  have := putAt_list l c.toList [] [] (by simpa using h)
  simpa using this

/-- Read: the bytes are the caller's own -/
theorem read_does (bd : Nat) (D : Dk) (i : Int) : Does Try.prog 20 #[.pointer (some ⟨bd, 0, none⟩), .int .i64 i] [diskA bd D]
    (Ret fun v H' => (D.check i ≠ 0 ∧ v = .tuple #[.slice none 0 0, .int .i64 (D.check i)] ∧ H' = [diskA bd D]) ∨
      (D.check i = 0 ∧ ∃ b e, v = .tuple #[.slice (some ⟨b, 0, none⟩) 64 64, .int .i64 0] ∧ H' = [diskA bd D, pt b (.cells (bv (D.read i)).toArray e (0, 0))])) := by
  refine disk_fact fun hok0 => ?_
  have hlen := Dk.read_len hok0 i
  refine spec_of Try.func20 rfl Try.ntmps20 (congrArg Array.toList Try.results20) (Nat.le_of_ble_eq_true rfl) ?_
  simp only [argEnv, Nat.zero_add, Nat.reduceAdd]
  (repeat' (first | (apply xL_q; exact wqa; exact rfl) | refine xL_nil ?_ | refine wtn ?_ | refine xW_seq ?_ | refine xW_region ?_ | refine run_nil ?_ | refine wtr ?_ | refine wtx ?_ | refine wbn ?_ | refine wbr ?_ | refine wbx ?_ | refine wbk rfl ?_ | refine wgn ?_ | refine wgr ?_ | refine wgx ?_ | (apply run_p; exact rfl; intro _; exact wqa) | (apply run_h; exact rfl; exact wqa) | (apply xL_e; exact wea; exact rfl) | (apply xL_e0; exact wea) | (apply xL_n; exact wna; exact rfl; intro b) | (apply Re; exact rfl; exact wea; exact wpa) | (apply Rg; exact rfl; exact wea; exact wpa) | (apply Rn; exact rfl; exact wna; intro _; exact wpa; intro b) | (refine Lc rfl ?_ rfl ?_; exact wsa) | (refine Lc0 rfl ?_ ?_; exact wsa) | (refine Lm rfl ?_ rfl (fun b => ?_); exact wsa) | (refine Rc rfl rfl ?_ ?_ ?_; exact wsa; exact wpa) | (refine Rc0 rfl rfl ?_ ?_ ?_; exact wsa; exact wpa) | (refine Rm rfl rfl ?_ (fun b => ?_) (fun b => ?_); exact wsa; exact wpa) | (apply xL_gyt; exact rfl; exact rfl; assumption; exact wqa; exact rfl) | (apply xL_gyf; exact rfl; exact rfl; assumption; exact wqa; exact rfl) | (refine Lyc rfl rfl rfl (by assumption) ?_ rfl ?_; exact wsa) | (refine Lym rfl rfl rfl (by assumption) ?_ rfl (fun b => ?_); exact wsa) | refine xL_gnt rfl rfl (by assumption) rfl ?_ | refine xL_gnf rfl rfl (by assumption) rfl ?_ | ((fail_if_success (refine xL_known (c := true) rfl rfl (by assumption) ?_)); (fail_if_success (refine xL_known (c := false) rfl rfl (by assumption) ?_)); (refine xL_split rfl rfl (fun hg => ?_) (fun hg => ?_) <;> (try (exfalso; have hg2 := hg; simp only [decide_eq_true_eq, decide_eq_false_iff_not] at hg2; omega)) <;> (try (exfalso; have hg3 := hg; simp at hg3; done)))) | refine xW_skip ?_ | refine xW_ret ?_ | refine xW_exit ?_ | refine xW_block ?_ | refine xW_scope ?_ | refine xW_label ?_ | refine xW_cond_true rfl (by first | rfl | assumption) ?_ | refine xW_cond_false rfl (by first | rfl | assumption) ?_ | (refine xW_cond rfl (fun hc => ?_) (fun hc => ?_) <;> (try simp only [decide_eq_true_eq, decide_eq_false_iff_not, Bool.not_eq_true', Bool.not_eq_false', Bool.and_eq_true, Bool.or_eq_true, Bool.cond_true_left, Bool.cond_false_right, Decidable.not_not, ne_eq, Bool.and_eq_false_iff, Bool.or_eq_false_iff] at hc) <;> (try contradiction) <;> (try (exfalso; omega)))))
  refine xL_call (check_does bd D i) rfl rfl ?_
  rintro v H' ⟨rfl, rfl⟩
  simp only [List.cons_append, List.nil_append]
  refine disk_openL fun bs bn wv hok => ?_
  (repeat' (first | (apply xL_q; exact wqa; exact rfl) | refine xL_nil ?_ | refine wtn ?_ | refine xW_seq ?_ | refine xW_region ?_ | refine run_nil ?_ | refine wtr ?_ | refine wtx ?_ | refine wbn ?_ | refine wbr ?_ | refine wbx ?_ | refine wbk rfl ?_ | refine wgn ?_ | refine wgr ?_ | refine wgx ?_ | (apply run_p; exact rfl; intro _; exact wqa) | (apply run_h; exact rfl; exact wqa) | (apply xL_e; exact wea; exact rfl) | (apply xL_e0; exact wea) | (apply xL_n; exact wna; exact rfl; intro b) | (apply Re; exact rfl; exact wea; exact wpa) | (apply Rg; exact rfl; exact wea; exact wpa) | (apply Rn; exact rfl; exact wna; intro _; exact wpa; intro b) | (refine Lc rfl ?_ rfl ?_; exact wsa) | (refine Lc0 rfl ?_ ?_; exact wsa) | (refine Lm rfl ?_ rfl (fun b => ?_); exact wsa) | (refine Rc rfl rfl ?_ ?_ ?_; exact wsa; exact wpa) | (refine Rc0 rfl rfl ?_ ?_ ?_; exact wsa; exact wpa) | (refine Rm rfl rfl ?_ (fun b => ?_) (fun b => ?_); exact wsa; exact wpa) | (apply xL_gyt; exact rfl; exact rfl; assumption; exact wqa; exact rfl) | (apply xL_gyf; exact rfl; exact rfl; assumption; exact wqa; exact rfl) | (refine Lyc rfl rfl rfl (by assumption) ?_ rfl ?_; exact wsa) | (refine Lym rfl rfl rfl (by assumption) ?_ rfl (fun b => ?_); exact wsa) | refine xL_gnt rfl rfl (by assumption) rfl ?_ | refine xL_gnf rfl rfl (by assumption) rfl ?_ | ((fail_if_success (refine xL_known (c := true) rfl rfl (by assumption) ?_)); (fail_if_success (refine xL_known (c := false) rfl rfl (by assumption) ?_)); (refine xL_split rfl rfl (fun hg => ?_) (fun hg => ?_) <;> (try (exfalso; have hg2 := hg; simp only [decide_eq_true_eq, decide_eq_false_iff_not] at hg2; omega)) <;> (try (exfalso; have hg3 := hg; simp at hg3; done)))) | refine xW_skip ?_ | refine xW_ret ?_ | refine xW_exit ?_ | refine xW_block ?_ | refine xW_scope ?_ | refine xW_label ?_ | refine xW_cond_true rfl (by first | rfl | assumption) ?_ | refine xW_cond_false rfl (by first | rfl | assumption) ?_ | (refine xW_cond rfl (fun hc => ?_) (fun hc => ?_) <;> (try simp only [decide_eq_true_eq, decide_eq_false_iff_not, Bool.not_eq_true', Bool.not_eq_false', Bool.and_eq_true, Bool.or_eq_true, Bool.cond_true_left, Bool.cond_false_right, Decidable.not_not, ne_eq, Bool.and_eq_false_iff, Bool.or_eq_false_iff] at hc) <;> (try contradiction) <;> (try (exfalso; omega)))))
  · refine ⟨_, [diskA bd D], rfl, (disk_shut bd bs bn wv D hok inferInstance).trans (Ent.drop inferInstance), .inl ⟨hc, rfl, rfl⟩⟩
  rw [enc_read]
  refine xL_op rfl rfl (sop_eff (e_store_agg rfl rfl (by simp [hlen]) (by simpa using bv_one _) (by simp [Value.cells])) ?_)
  dsimp only [putE]
  rw [putAt_all _ _ (by simp [Value.cells, hlen])]
  (repeat' (first | (apply xL_q; exact wqa; exact rfl) | refine xL_nil ?_ | refine wtn ?_ | refine xW_seq ?_ | refine xW_region ?_ | refine run_nil ?_ | refine wtr ?_ | refine wtx ?_ | refine wbn ?_ | refine wbr ?_ | refine wbx ?_ | refine wbk rfl ?_ | refine wgn ?_ | refine wgr ?_ | refine wgx ?_ | (apply run_p; exact rfl; intro _; exact wqa) | (apply run_h; exact rfl; exact wqa) | (apply xL_e; exact wea; exact rfl) | (apply xL_e0; exact wea) | (apply xL_n; exact wna; exact rfl; intro b) | (apply Re; exact rfl; exact wea; exact wpa) | (apply Rg; exact rfl; exact wea; exact wpa) | (apply Rn; exact rfl; exact wna; intro _; exact wpa; intro b) | (refine Lc rfl ?_ rfl ?_; exact wsa) | (refine Lc0 rfl ?_ ?_; exact wsa) | (refine Lm rfl ?_ rfl (fun b => ?_); exact wsa) | (refine Rc rfl rfl ?_ ?_ ?_; exact wsa; exact wpa) | (refine Rc0 rfl rfl ?_ ?_ ?_; exact wsa; exact wpa) | (refine Rm rfl rfl ?_ (fun b => ?_) (fun b => ?_); exact wsa; exact wpa) | (apply xL_gyt; exact rfl; exact rfl; assumption; exact wqa; exact rfl) | (apply xL_gyf; exact rfl; exact rfl; assumption; exact wqa; exact rfl) | (refine Lyc rfl rfl rfl (by assumption) ?_ rfl ?_; exact wsa) | (refine Lym rfl rfl rfl (by assumption) ?_ rfl (fun b => ?_); exact wsa) | refine xL_gnt rfl rfl (by assumption) rfl ?_ | refine xL_gnf rfl rfl (by assumption) rfl ?_ | ((fail_if_success (refine xL_known (c := true) rfl rfl (by assumption) ?_)); (fail_if_success (refine xL_known (c := false) rfl rfl (by assumption) ?_)); (refine xL_split rfl rfl (fun hg => ?_) (fun hg => ?_) <;> (try (exfalso; have hg2 := hg; simp only [decide_eq_true_eq, decide_eq_false_iff_not] at hg2; omega)) <;> (try (exfalso; have hg3 := hg; simp at hg3; done)))) | refine xW_skip ?_ | refine xW_ret ?_ | refine xW_exit ?_ | refine xW_block ?_ | refine xW_scope ?_ | refine xW_label ?_ | refine xW_cond_true rfl (by first | rfl | assumption) ?_ | refine xW_cond_false rfl (by first | rfl | assumption) ?_ | (refine xW_cond rfl (fun hc => ?_) (fun hc => ?_) <;> (try simp only [decide_eq_true_eq, decide_eq_false_iff_not, Bool.not_eq_true', Bool.not_eq_false', Bool.and_eq_true, Bool.or_eq_true, Bool.cond_true_left, Bool.cond_false_right, Decidable.not_not, ne_eq, Bool.and_eq_false_iff, Bool.or_eq_false_iff] at hc) <;> (try contradiction) <;> (try (exfalso; omega)))))
  refine ⟨_, [diskA bd D, pt b (.cells (bv (D.read i)).toArray 99 (0, 0))], rfl, (disk_shut bd bs bn wv D hok inferInstance).trans (Ent.drop inferInstance), .inr ⟨hc, b, _, rfl, rfl⟩⟩
end Go.Proofs.Ytjnbanjmehkifaa
