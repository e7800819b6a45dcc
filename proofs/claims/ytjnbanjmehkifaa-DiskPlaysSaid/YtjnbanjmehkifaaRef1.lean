/- The reference of the disk. -/
import Derived.Test.YtjnbanjmehkifaaDisk5
import Derived.Test.YtjnbanjmehkifaaSlRo
namespace Go.Proofs.Ytjnbanjmehkifaa
open Go.SL
structure Rf where
  B : List Sec
  L : List (Int × Sec)
  off : Bool
  burns : Bool
  left : Int
  n : Int
structure RfOk (R : Rf) : Prop where
  b : ∀ s ∈ R.B, s.length = 0 ∨ s.length = 64
  l : ∀ k s, (k, s) ∈ R.L → s.length = 64 ∧ 0 ≤ k ∧ k < R.B.length
  len : R.B.length ≤ 8192
  left : R.burns = true → 0 ≤ R.left ∧ R.left ≤ 9223372036854775807
def pcells : List (Int × Sec) → List Value → List Value
  | (k, _) :: l, u :: us => .int .i64 k :: u :: pcells l us
  | _, _ => []
def refL (bd : Nat) (R : Rf) : Value × Value × List Value × List Value → List Assn := fun ⟨bw, lw, vs, us⟩ =>
  [pureA (RfOk R), pt bd (.cells #[bw, lw, .bool R.off, .bool R.burns, .int .i64 R.left, .int .i64 R.n] 96 (0, 0)), immA 1 bw vs, rowsA vs R.B, immA 2 lw (pcells R.L us), rowsA us (R.L.map (·.2))]
def refA (bd : Nat) (R : Rf) : Assn := exA (refL bd R)
theorem ref_open {T : List Assn → Prop} (hT : LocG T) {bd : Nat} {R : Rf} {H : List Assn}
    (h : ∀ bw lw vs us, RfOk R → vs.length = R.B.length → us.length = R.L.length → (∀ v ∈ vs, v.oneCell' = true) → (∀ v ∈ us, v.oneCell' = true) → bw.oneCell' = true → lw.oneCell' = true →
      T (pt bd (.cells #[bw, lw, .bool R.off, .bool R.burns, .int .i64 R.left, .int .i64 R.n] 96 (0, 0)) :: immA 1 bw vs :: rowsA vs R.B :: immA 2 lw (pcells R.L us) :: rowsA us (R.L.map (·.2)) :: H)) : T (refA bd R :: H) := by
  refine hT.step _ (fun H' => ∃ bw lw vs us, RfOk R ∧ vs.length = R.B.length ∧ us.length = R.L.length ∧ (∀ v ∈ vs, v.oneCell' = true) ∧ (∀ v ∈ us, v.oneCell' = true) ∧ bw.oneCell' = true ∧ lw.oneCell' = true ∧
     H' = pt bd (.cells #[bw, lw, .bool R.off, .bool R.burns, .int .i64 R.left, .int .i64 R.n] 96 (0, 0)) :: immA 1 bw vs :: rowsA vs R.B :: immA 2 lw (pcells R.L us) :: rowsA us (R.L.map (·.2)) :: H) ?_ ?_
  · rintro m f w ⟨x, ⟨p, q, hd, rfl, ⟨⟨bw, lw, vs, us⟩, hx⟩, hl⟩, r⟩
    have hs : sepL (refL bd R (bw, lw, vs, us) ++ H) (Hp.un p q) m := (sepL_append _ _ _ _).2 ⟨p, q, hd, rfl, hx, hl⟩
    obtain ⟨p1, q1, hd1, he, ⟨rfl, hok⟩, hl1⟩ := hs
    rw [Hp.emp_un] at he
    subst he
    have hl2 := hl1
    obtain ⟨p2, q2, hd2, he2, _, hl3⟩ := hl1
    obtain ⟨⟨k1, _, hb⟩, hl4⟩ := sepL_fact hl3
    obtain ⟨⟨k2, _, hv⟩, hl5⟩ := sepL_fact hl4
    obtain ⟨⟨k3, _, hlw⟩, hl6⟩ := sepL_fact hl5
    obtain ⟨⟨k4, _, hu⟩, hl7⟩ := sepL_fact hl6
    refine ⟨_, m, ⟨bw, lw, vs, us, hok, hv.1, by have := hu.1; simpa using this, ?_, ?_, hb.one, hlw.one, rfl⟩, ⟨_, hl2, r⟩, Hp.le_refl m⟩
    · intro v hm
      obtain ⟨i, hi, rfl⟩ := List.mem_iff_getElem.1 hm
      exact (hv.2 i hi (by rw [← hv.1]; exact hi)).one
    · intro v hm
      obtain ⟨i, hi, rfl⟩ := List.mem_iff_getElem.1 hm
      exact (hu.2 i hi (by rw [← hu.1]; exact hi)).one
  · rintro H' ⟨bw, lw, vs, us, h1, h2, h3, h4, h5, h6, h7, rfl⟩
    exact h bw lw vs us h1 h2 h3 h4 h5 h6 h7
theorem ref_shut {H F : List Assn} (bd : Nat) (bw lw : Value) (vs us : List Value) (R : Rf) (hok : RfOk R)
    (ht : TakeC H [pt bd (.cells #[bw, lw, .bool R.off, .bool R.burns, .int .i64 R.left, .int .i64 R.n] 96 (0, 0)), immA 1 bw vs, rowsA vs R.B, immA 2 lw (pcells R.L us), rowsA us (R.L.map (·.2))] F) : Ent H (refA bd R :: F) := by
  refine (Ent.take ht).trans ?_
  exact (ent_pure hok).trans (ent_ex (A := refL bd R) (H := F) (bw, lw, vs, us))

end Go.Proofs.Ytjnbanjmehkifaa
namespace Go.Proofs.Ytjnbanjmehkifaa
open Go.SL
set_option maxRecDepth 20000
set_option linter.unusedSimpArgs false
set_option linter.unusedVariables false
attribute [local irreducible] thenS inBlockS noGotoS Quiet SOp xW xL Does RunP AnyS Tells Eff New OpRes SatH pt ro roAll pureA exA allA STOP
/-! a step -/
def Rf.gone (R : Rf) : Bool := R.burns && decide (R.left = 0)
def Rf.step (R : Rf) : Rf := if R.gone then { R with off := true, burns := false } else { R with left := if R.burns then R.left - 1 else R.left, n := IntKind.i64.wrap (R.n + 1) }
theorem Rf.step_ok {R : Rf} (h : RfOk R) : RfOk R.step := by
  unfold Rf.step
  split
  · exact ⟨h.b, h.l, h.len, by simp⟩
  · rename_i hg
    refine ⟨h.b, h.l, h.len, ?_⟩
    intro hb
    have hb' : R.burns = true := hb
    have := h.left hb'
    simp [Rf.gone, hb'] at hg
    simp only [hb', if_true]
    omega
theorem rstep_does (bd : Nat) (R : Rf) : Does Try.prog 65 #[.pointer (some ⟨bd, 0, none⟩)] [refA bd R] (Ret fun v H' => v = .bool (!R.gone) ∧ H' = [refA bd R.step]) := by
  refine ref_open loc_Does fun bw lw vs us hok _ _ _ _ _ _ => ?_
  have hok' := Rf.step_ok hok
  have hl := hok.left
  refine spec_of Try.func65 rfl Try.ntmps65 (congrArg Array.toList Try.results65) (Nat.le_of_ble_eq_true rfl) ?_
  simp only [argEnv, Nat.zero_add, Nat.reduceAdd]
  (repeat' (first | (apply xL_q; exact wqa; exact rfl) | refine xL_nil ?_ | refine wtn ?_ | refine xW_seq ?_ | refine xW_region ?_ | refine run_nil ?_ | refine wtr ?_ | refine wtx ?_ | refine wbn ?_ | refine wbr ?_ | refine wbx ?_ | refine wbk rfl ?_ | refine wgn ?_ | refine wgr ?_ | refine wgx ?_ | (apply run_p; exact rfl; intro _; exact wqa) | (apply run_h; exact rfl; exact wqa) | (apply xL_e; exact wea; exact rfl) | (apply xL_e0; exact wea) | (apply xL_n; exact wna; exact rfl; intro b) | (apply Re; exact rfl; exact wea; exact wpa) | (apply Rg; exact rfl; exact wea; exact wpa) | (apply Rn; exact rfl; exact wna; intro _; exact wpa; intro b) | (refine Lc rfl ?_ rfl ?_; exact wsa) | (refine Lc0 rfl ?_ ?_; exact wsa) | (refine Lm rfl ?_ rfl (fun b => ?_); exact wsa) | (refine Rc rfl rfl ?_ ?_ ?_; exact wsa; exact wpa) | (refine Rc0 rfl rfl ?_ ?_ ?_; exact wsa; exact wpa) | (refine Rm rfl rfl ?_ (fun b => ?_) (fun b => ?_); exact wsa; exact wpa) | (apply xL_gyt; exact rfl; exact rfl; assumption; exact wqa; exact rfl) | (apply xL_gyf; exact rfl; exact rfl; assumption; exact wqa; exact rfl) | (refine Lyc rfl rfl rfl (by assumption) ?_ rfl ?_; exact wsa) | (refine Lym rfl rfl rfl (by assumption) ?_ rfl (fun b => ?_); exact wsa) | refine xL_gnt rfl rfl (by assumption) rfl ?_ | refine xL_gnf rfl rfl (by assumption) rfl ?_ | ((fail_if_success (refine xL_known (c := true) rfl rfl (by assumption) ?_)); (fail_if_success (refine xL_known (c := false) rfl rfl (by assumption) ?_)); (refine xL_split rfl rfl (fun hg => ?_) (fun hg => ?_) <;> (try (exfalso; have hg2 := hg; simp only [decide_eq_true_eq, decide_eq_false_iff_not] at hg2; omega)) <;> (try (exfalso; have hg3 := hg; simp at hg3; done)))) | refine xW_skip ?_ | refine xW_ret ?_ | refine xW_exit ?_ | refine xW_block ?_ | refine xW_scope ?_ | refine xW_label ?_ | refine xW_cond_true rfl (by first | rfl | assumption) ?_ | refine xW_cond_false rfl (by first | rfl | assumption) ?_ | (refine xW_cond rfl (fun hc => ?_) (fun hc => ?_) <;> (try simp only [decide_eq_true_eq, decide_eq_false_iff_not, Bool.not_eq_true', Bool.not_eq_false', Bool.and_eq_true, Bool.or_eq_true, Bool.cond_true_left, Bool.cond_false_right, Decidable.not_not, ne_eq, Bool.and_eq_false_iff, Bool.or_eq_false_iff] at hc) <;> (try contradiction) <;> (try (exfalso; omega)))))
  · refine ⟨_, [refA bd R.step], rfl, ?_, ?_, rfl⟩
    · have hs : R.step = { R with off := true, burns := false } := by unfold Rf.step; rw [if_pos (by simp [Rf.gone, *])]
      rw [hs] at hok' ⊢
      exact (ref_shut bd bw lw vs us _ hok' inferInstance).trans (Ent.drop inferInstance)
    · simp [Rf.gone, oneOr, *]
  · have := hl hg
    have hw : IntKind.i64.wrap (R.left - 1) = R.left - 1 := wrap_i64 (by omega) (by omega)
    refine ⟨_, [refA bd R.step], rfl, ?_, ?_, rfl⟩
    · have hs : R.step = { R with left := R.left - 1, n := IntKind.i64.wrap (R.n + 1) } := by unfold Rf.step; rw [if_neg (by simp [Rf.gone, *])]; simp [hg]
      rw [hs] at hok' ⊢
      rw [hw]
      exact (ref_shut bd bw lw vs us _ hok' inferInstance).trans (Ent.drop inferInstance)
    · simp [Rf.gone, oneOr, *]
  · refine ⟨_, [refA bd R.step], rfl, ?_, ?_, rfl⟩
    · have hs : R.step = { R with n := IntKind.i64.wrap (R.n + 1) } := by unfold Rf.step; rw [if_neg (by simp [Rf.gone, *])]; simp [hg]
      rw [hs] at hok' ⊢
      exact (ref_shut bd bw lw vs us _ hok' inferInstance).trans (Ent.drop inferInstance)
    · simp [Rf.gone, oneOr, *]

/-! the fuse -/
def Rf.setFuse (R : Rf) (k : Int) : Rf := if R.off then R else { R with burns := decide (k ≥ 0), left := k }
theorem Rf.setFuse_ok {R : Rf} (h : RfOk R) (k : Int) (hk : k ≤ 9223372036854775807) : RfOk (R.setFuse k) := by
  unfold Rf.setFuse
  split
  · exact h
  · exact ⟨h.b, h.l, h.len, by simp; omega⟩
theorem rfuse_does (bd : Nat) (R : Rf) (k : Int) (hk : k ≤ 9223372036854775807) : Does Try.prog 22 #[.pointer (some ⟨bd, 0, none⟩), .int .i64 k] [refA bd R] (Ret fun v H' => v = .tuple #[] ∧ H' = [refA bd (R.setFuse k)]) := by
  refine ref_open loc_Does fun bw lw vs us hok _ _ _ _ _ _ => ?_
  have hok' := Rf.setFuse_ok hok k hk
  refine spec_of Try.func22 rfl Try.ntmps22 (congrArg Array.toList Try.results22) (Nat.le_of_ble_eq_true rfl) ?_
  simp only [argEnv, Nat.zero_add, Nat.reduceAdd]
  (repeat' (first | (apply xL_q; exact wqa; exact rfl) | refine xL_nil ?_ | refine wtn ?_ | refine xW_seq ?_ | refine xW_region ?_ | refine run_nil ?_ | refine wtr ?_ | refine wtx ?_ | refine wbn ?_ | refine wbr ?_ | refine wbx ?_ | refine wbk rfl ?_ | refine wgn ?_ | refine wgr ?_ | refine wgx ?_ | (apply run_p; exact rfl; intro _; exact wqa) | (apply run_h; exact rfl; exact wqa) | (apply xL_e; exact wea; exact rfl) | (apply xL_e0; exact wea) | (apply xL_n; exact wna; exact rfl; intro b) | (apply Re; exact rfl; exact wea; exact wpa) | (apply Rg; exact rfl; exact wea; exact wpa) | (apply Rn; exact rfl; exact wna; intro _; exact wpa; intro b) | (refine Lc rfl ?_ rfl ?_; exact wsa) | (refine Lc0 rfl ?_ ?_; exact wsa) | (refine Lm rfl ?_ rfl (fun b => ?_); exact wsa) | (refine Rc rfl rfl ?_ ?_ ?_; exact wsa; exact wpa) | (refine Rc0 rfl rfl ?_ ?_ ?_; exact wsa; exact wpa) | (refine Rm rfl rfl ?_ (fun b => ?_) (fun b => ?_); exact wsa; exact wpa) | (apply xL_gyt; exact rfl; exact rfl; assumption; exact wqa; exact rfl) | (apply xL_gyf; exact rfl; exact rfl; assumption; exact wqa; exact rfl) | (refine Lyc rfl rfl rfl (by assumption) ?_ rfl ?_; exact wsa) | (refine Lym rfl rfl rfl (by assumption) ?_ rfl (fun b => ?_); exact wsa) | refine xL_gnt rfl rfl (by assumption) rfl ?_ | refine xL_gnf rfl rfl (by assumption) rfl ?_ | ((fail_if_success (refine xL_known (c := true) rfl rfl (by assumption) ?_)); (fail_if_success (refine xL_known (c := false) rfl rfl (by assumption) ?_)); (refine xL_split rfl rfl (fun hg => ?_) (fun hg => ?_) <;> (try (exfalso; have hg2 := hg; simp only [decide_eq_true_eq, decide_eq_false_iff_not] at hg2; omega)) <;> (try (exfalso; have hg3 := hg; simp at hg3; done)))) | refine xW_skip ?_ | refine xW_ret ?_ | refine xW_exit ?_ | refine xW_block ?_ | refine xW_scope ?_ | refine xW_label ?_ | refine xW_cond_true rfl (by first | rfl | assumption) ?_ | refine xW_cond_false rfl (by first | rfl | assumption) ?_ | (refine xW_cond rfl (fun hc => ?_) (fun hc => ?_) <;> (try simp only [decide_eq_true_eq, decide_eq_false_iff_not, Bool.not_eq_true', Bool.not_eq_false', Bool.and_eq_true, Bool.or_eq_true, Bool.cond_true_left, Bool.cond_false_right, Decidable.not_not, ne_eq, Bool.and_eq_false_iff, Bool.or_eq_false_iff] at hc) <;> (try contradiction) <;> (try (exfalso; omega)))))
  · refine ⟨_, [refA bd (R.setFuse k)], rfl, ?_, rfl, rfl⟩
    have hs : R.setFuse k = { R with burns := decide (0 ≤ k), left := k } := by unfold Rf.setFuse; rw [if_neg (by simp [*])]
    rw [hs] at hok' ⊢
    exact (ref_shut bd bw lw vs us _ hok' inferInstance).trans (Ent.drop inferInstance)
  · refine ⟨_, [refA bd (R.setFuse k)], rfl, ?_, rfl, rfl⟩
    have hs : R.setFuse k = R := by unfold Rf.setFuse; rw [if_pos (by simp [*])]
    rw [hs]
    exact (ref_shut bd bw lw vs us _ hok inferInstance).trans (Ent.drop inferInstance)

/-! a clone, a new one -/
theorem rclone_does (bd : Nat) (R : Rf) : Does Try.prog 13 #[.pointer (some ⟨bd, 0, none⟩)] [refA bd R] (Ret fun v H' => ∃ b, v = .pointer (some ⟨b, 0, none⟩) ∧ H' = [refA bd R, refA b R]) := by
  refine ref_open loc_Does fun bw lw vs us hok _ _ _ _ hb1 hl1 => ?_
  refine spec_of Try.func13 rfl Try.ntmps13 (congrArg Array.toList Try.results13) (Nat.le_of_ble_eq_true rfl) ?_
  simp only [argEnv, Nat.zero_add, Nat.reduceAdd]
  have hsg : Seg #[bw, lw, .bool R.off, .bool R.burns, .int .i64 R.left, .int .i64 R.n] 0 [bw, lw, .bool R.off, .bool R.burns, .int .i64 R.left, .int .i64 R.n] := ⟨by simp, by simp⟩
  have h1c : ∀ x ∈ ([bw, lw, .bool R.off, .bool R.burns, .int .i64 R.left, .int .i64 R.n] : List Value), x.oneCell' = true := by
    intro x hx; simp at hx; rcases hx with rfl | rfl | rfl | rfl | rfl | rfl <;> first | rfl | assumption
  (repeat' (first | (apply xL_q; (first | exact q_load_seg rfl hsg rfl); exact rfl) | (apply xL_q; exact wqa; exact rfl) | (apply run_p; exact rfl; (intro H'; (first | exact q_load_seg rfl hsg rfl))) | (apply run_h; exact rfl; (first | exact q_load_seg rfl hsg rfl)) | refine xL_nil ?_ | refine wtn ?_ | refine xW_seq ?_ | refine xW_region ?_ | refine run_nil ?_ | refine wtr ?_ | refine wtx ?_ | refine wbn ?_ | refine wbr ?_ | refine wbx ?_ | refine wbk rfl ?_ | refine wgn ?_ | refine wgr ?_ | refine wgx ?_ | (apply run_p; exact rfl; intro _; exact wqa) | (apply run_h; exact rfl; exact wqa) | (apply xL_e; exact wea; exact rfl) | (apply xL_e0; exact wea) | (apply xL_n; exact wna; exact rfl; intro b) | (apply Re; exact rfl; exact wea; exact (by (repeat' (first | exact trivial | (refine pend_cons rfl rfl ?_ ?_; first | exact q_load_seg rfl hsg rfl | exact wqa) | (refine pend_cons_y rfl rfl rfl (by assumption) ?_ ?_; first | exact q_load_seg rfl hsg rfl | exact wqa))))) | (apply Rg; exact rfl; exact wea; exact (by (repeat' (first | exact trivial | (refine pend_cons rfl rfl ?_ ?_; first | exact q_load_seg rfl hsg rfl | exact wqa) | (refine pend_cons_y rfl rfl rfl (by assumption) ?_ ?_; first | exact q_load_seg rfl hsg rfl | exact wqa))))) | (apply Rn; exact rfl; exact wna; intro _; exact (by (repeat' (first | exact trivial | (refine pend_cons rfl rfl ?_ ?_; first | exact q_load_seg rfl hsg rfl | exact wqa) | (refine pend_cons_y rfl rfl rfl (by assumption) ?_ ?_; first | exact q_load_seg rfl hsg rfl | exact wqa)))); intro b) | (apply xL_op; exact rfl; exact rfl; (first | refine sop_eff (e_store_all rfl rfl rfl (by simp [Value.cells]) h1c) ?_); dsimp only [putE]) | (refine run_e' _ rfl rfl ?_; (first | refine sop_eff (e_store_all rfl rfl rfl (by simp [Value.cells]) h1c) ?_); dsimp only [putE]; refine ⟨(by (repeat' (first | exact trivial | (refine pend_cons rfl rfl ?_ ?_; first | exact q_load_seg rfl hsg rfl | exact wqa) | (refine pend_cons_y rfl rfl rfl (by assumption) ?_ ?_; first | exact q_load_seg rfl hsg rfl | exact wqa)))), ?_⟩) | (refine Lc rfl ?_ rfl ?_; exact wsa) | (refine Lc0 rfl ?_ ?_; exact wsa) | (refine Lm rfl ?_ rfl (fun b => ?_); exact wsa) | (refine Rc rfl rfl ?_ ?_ ?_; exact wsa; exact (by (repeat' (first | exact trivial | (refine pend_cons rfl rfl ?_ ?_; first | exact q_load_seg rfl hsg rfl | exact wqa) | (refine pend_cons_y rfl rfl rfl (by assumption) ?_ ?_; first | exact q_load_seg rfl hsg rfl | exact wqa))))) | (refine Rc0 rfl rfl ?_ ?_ ?_; exact wsa; exact (by (repeat' (first | exact trivial | (refine pend_cons rfl rfl ?_ ?_; first | exact q_load_seg rfl hsg rfl | exact wqa) | (refine pend_cons_y rfl rfl rfl (by assumption) ?_ ?_; first | exact q_load_seg rfl hsg rfl | exact wqa))))) | (refine Rm rfl rfl ?_ (fun b => ?_) (fun b => ?_); exact wsa; exact (by (repeat' (first | exact trivial | (refine pend_cons rfl rfl ?_ ?_; first | exact q_load_seg rfl hsg rfl | exact wqa) | (refine pend_cons_y rfl rfl rfl (by assumption) ?_ ?_; first | exact q_load_seg rfl hsg rfl | exact wqa))))) | (apply xL_gyt; exact rfl; exact rfl; assumption; exact wqa; exact rfl) | (apply xL_gyf; exact rfl; exact rfl; assumption; exact wqa; exact rfl) | (refine Lyc rfl rfl rfl (by assumption) ?_ rfl ?_; exact wsa) | (refine Lym rfl rfl rfl (by assumption) ?_ rfl (fun b => ?_); exact wsa) | refine xL_gnt rfl rfl (by assumption) rfl ?_ | refine xL_gnf rfl rfl (by assumption) rfl ?_ | (apply xL_gyt; exact rfl; exact rfl; assumption; (first | exact q_load_seg rfl hsg rfl); exact rfl) | (apply xL_gyf; exact rfl; exact rfl; assumption; (first | exact q_load_seg rfl hsg rfl); exact rfl) | ((fail_if_success (refine xL_known (c := true) rfl rfl (by assumption) ?_)); (fail_if_success (refine xL_known (c := false) rfl rfl (by assumption) ?_)); (refine xL_split rfl rfl (fun hg => ?_) (fun hg => ?_) <;> (try (exfalso; have hg2 := hg; simp only [decide_eq_true_eq, decide_eq_false_iff_not] at hg2; omega)) <;> (try (exfalso; have hg3 := hg; simp at hg3; done)))) | refine xW_skip ?_ | refine xW_ret ?_ | refine xW_exit ?_ | refine xW_block ?_ | refine xW_scope ?_ | refine xW_label ?_ | refine xW_cond_true rfl (by first | rfl | assumption) ?_ | refine xW_cond_false rfl (by first | rfl | assumption) ?_ | (refine xW_cond rfl (fun hc => ?_) (fun hc => ?_) <;> (try simp only [decide_eq_true_eq, decide_eq_false_iff_not, Bool.not_eq_true', Bool.not_eq_false', Bool.and_eq_true, Bool.or_eq_true, Bool.cond_true_left, Bool.cond_false_right, Decidable.not_not, ne_eq, Bool.and_eq_false_iff, Bool.or_eq_false_iff] at hc) <;> (try contradiction) <;> (try (exfalso; omega)))))
  refine ⟨_, [refA bd R, refA b R], rfl, ?_, b, rfl, rfl⟩
  refine Ent.trans (Ent.drop (L := [immA 1 bw vs, rowsA vs R.B, immA 2 lw (pcells R.L us), rowsA us (R.L.map (·.2)), pt bd (.cells #[bw, lw, .bool R.off, .bool R.burns, .int .i64 R.left, .int .i64 R.n] 96 (0, 0)), pt b (.cells #[bw, lw, .bool R.off, .bool R.burns, .int .i64 R.left, .int .i64 R.n] 96 (0, 0))]) inferInstance) ?_
  refine (ent_dupI.trans (ent_cons (ent_cons (ent_dupR.trans (ent_cons (ent_cons (ent_dupI.trans (ent_cons (ent_cons ent_dupR))))))))).trans ?_
  exact (ref_shut bd bw lw vs us R hok inferInstance).trans ((ref_shut b bw lw vs us R hok inferInstance).trans (Ent.drop inferInstance))
end Go.Proofs.Ytjnbanjmehkifaa
