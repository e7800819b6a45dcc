/- The reference of the disk: writing. -/
import Derived.Test.YtjnbanjmehkifaaRef2
namespace Go.Proofs.Ytjnbanjmehkifaa
open Go.SL
set_option maxRecDepth 20000
set_option linter.unusedSimpArgs false
set_option linter.unusedVariables false
attribute [local irreducible] thenS inBlockS noGotoS Quiet SOp xW xL Does RunP AnyS Tells Eff New OpRes SatH pt ro roAll pureA exA allA STOP
def Rf.check (R : Rf) (i : Int) : Int := if R.off = true then 2 else if i < 0 ∨ R.B.length ≤ i then 10 else 0
def Rf.write (R : Rf) (i : Int) (s : Sec) : Rf := if R.check i ≠ 0 then R else if s.length ≠ 64 then R else if R.gone then R.step else { R.step with L := R.L ++ [(i, s)] }
def Rf.writeE (R : Rf) (i : Int) (s : Sec) : Int := if R.check i ≠ 0 then R.check i else if s.length ≠ 64 then 11 else if R.gone then 2 else 0
theorem rstep_L (R : Rf) : R.step.L = R.L := by unfold Rf.step; split <;> rfl
theorem rstep_B (R : Rf) : R.step.B = R.B := by unfold Rf.step; split <;> rfl
theorem Rf.write_ok {R : Rf} (h : RfOk R) (i : Int) (s : Sec) : RfOk (R.write i s) := by
  unfold Rf.write
  split
  · exact h
  split
  · exact h
  split
  · exact Rf.step_ok h
  · rename_i h1 h2 h3
    have hs := Rf.step_ok h
    have h64 : s.length = 64 := by simpa using h2
    refine ⟨hs.b, ?_, hs.len, hs.left⟩
    intro k t hm
    rcases List.mem_append.1 hm with e | e
    · have := h.l k t e; rw [← rstep_B] at this; exact this
    · simp only [List.mem_singleton, Prod.mk.injEq] at e
      rw [e.2, e.1]
      refine ⟨h64, ?_⟩
      show 0 ≤ i ∧ i < R.step.B.length
      rw [rstep_B]
      unfold Rf.check at h1
      split at h1
      · simp at h1
      split at h1
      · simp at h1
      · omega
theorem pcells_length : ∀ (l : List (Int × Sec)) (us : List Value), us.length = l.length → (pcells l us).length = l.length * 2
  | [], us, h => by simp [pcells]
  | (k, s) :: l, [], h => by simp at h
  | (k, s) :: l, u :: us, h => by
    have := pcells_length l us (by simpa using h)
    simp [pcells, this]; omega
theorem pcells_one : ∀ (l : List (Int × Sec)) (us : List Value), (∀ u ∈ us, u.oneCell' = true) → ∀ v ∈ pcells l us, v.oneCell' = true
  | [], us, h, v, hv => by simp [pcells] at hv
  | (k, s) :: l, [], h, v, hv => by simp [pcells] at hv
  | (k, s) :: l, u :: us, h, v, hv => by
    simp only [pcells, List.mem_cons] at hv
    rcases hv with rfl | rfl | hv
    · rfl
    · exact h _ (List.mem_cons_self ..)
    · exact pcells_one l us (fun u hu => h u (List.mem_cons_of_mem _ hu)) v hv
theorem pcells_snoc : ∀ (l : List (Int × Sec)) (us : List Value) (k : Int) (s : Sec) (u : Value), us.length = l.length → pcells (l ++ [(k, s)]) (us ++ [u]) = pcells l us ++ [.int .i64 k, u]
  | [], us, k, s, u, h => by
    have : us = [] := List.length_eq_zero_iff.1 (by simpa using h)
    subst this; rfl
  | (k', s') :: l, [], k, s, u, h => by simp at h
  | (k', s') :: l, u' :: us, k, s, u, h => by
    have := pcells_snoc l us k s u (by simpa using h)
    simp [pcells, this]

theorem rwrite_does (bd : Nat) (R : Rf) (i : Int) (A : Assn) (b o cap : Nat) (c : Array Value) (e : TypeId) (fr : Nat × Nat) (s : Sec) [hA : LendC A b (.cells c e fr)] (hs : Seg c o (bv s)) (hw : R.L.length < 1000000000000) (hs2 : s.length < 1000000000000) :
    Does Try.prog 17 #[.pointer (some ⟨bd, 0, none⟩), .int .i64 i, .slice (some ⟨b, o, none⟩) s.length cap] [refA bd R, A] (Ret fun v H' => v = .int .i64 (R.writeE i s) ∧ H' = [refA bd (R.write i s), A]) := by
  refine ref_open loc_Does fun bw lw vs us hok hv hu hvo huo hb1 hl1 => ?_
  have hok' := Rf.write_ok hok i s
  refine spec_of Try.func17 rfl Try.ntmps17 (congrArg Array.toList Try.results17) (Nat.le_of_ble_eq_true rfl) ?_
  simp only [argEnv, Nat.zero_add, Nat.reduceAdd]
  (repeat' (first | (apply xL_q; (first | exact q_len_imm (k := R.B.length) rfl (by omega) (by omega)); exact rfl) | (apply xL_q; exact wqa; exact rfl) | (apply run_p; exact rfl; (intro H'; (first | exact q_len_imm (k := R.B.length) rfl (by omega) (by omega)))) | (apply run_h; exact rfl; (first | exact q_len_imm (k := R.B.length) rfl (by omega) (by omega))) | refine xL_nil ?_ | refine wtn ?_ | refine xW_seq ?_ | refine xW_region ?_ | refine run_nil ?_ | refine wtr ?_ | refine wtx ?_ | refine wbn ?_ | refine wbr ?_ | refine wbx ?_ | refine wbk rfl ?_ | refine wgn ?_ | refine wgr ?_ | refine wgx ?_ | (apply run_p; exact rfl; intro _; exact wqa) | (apply run_h; exact rfl; exact wqa) | (apply xL_e; exact wea; exact rfl) | (apply xL_e0; exact wea) | (apply xL_n; exact wna; exact rfl; intro b) | (apply Re; exact rfl; exact wea; exact (by (repeat' (first | exact trivial | (refine pend_cons rfl rfl ?_ ?_; first | exact q_len_imm (k := R.B.length) rfl (by omega) (by omega) | exact wqa) | (refine pend_cons_y rfl rfl rfl (by assumption) ?_ ?_; first | exact q_len_imm (k := R.B.length) rfl (by omega) (by omega) | exact wqa))))) | (apply Rg; exact rfl; exact wea; exact (by (repeat' (first | exact trivial | (refine pend_cons rfl rfl ?_ ?_; first | exact q_len_imm (k := R.B.length) rfl (by omega) (by omega) | exact wqa) | (refine pend_cons_y rfl rfl rfl (by assumption) ?_ ?_; first | exact q_len_imm (k := R.B.length) rfl (by omega) (by omega) | exact wqa))))) | (apply Rn; exact rfl; exact wna; intro _; exact (by (repeat' (first | exact trivial | (refine pend_cons rfl rfl ?_ ?_; first | exact q_len_imm (k := R.B.length) rfl (by omega) (by omega) | exact wqa) | (refine pend_cons_y rfl rfl rfl (by assumption) ?_ ?_; first | exact q_len_imm (k := R.B.length) rfl (by omega) (by omega) | exact wqa)))); intro b) | (refine Lc rfl ?_ rfl ?_; exact wsa) | (refine Lc0 rfl ?_ ?_; exact wsa) | (refine Lm rfl ?_ rfl (fun b => ?_); exact wsa) | (refine Rc rfl rfl ?_ ?_ ?_; exact wsa; exact (by (repeat' (first | exact trivial | (refine pend_cons rfl rfl ?_ ?_; first | exact q_len_imm (k := R.B.length) rfl (by omega) (by omega) | exact wqa) | (refine pend_cons_y rfl rfl rfl (by assumption) ?_ ?_; first | exact q_len_imm (k := R.B.length) rfl (by omega) (by omega) | exact wqa))))) | (refine Rc0 rfl rfl ?_ ?_ ?_; exact wsa; exact (by (repeat' (first | exact trivial | (refine pend_cons rfl rfl ?_ ?_; first | exact q_len_imm (k := R.B.length) rfl (by omega) (by omega) | exact wqa) | (refine pend_cons_y rfl rfl rfl (by assumption) ?_ ?_; first | exact q_len_imm (k := R.B.length) rfl (by omega) (by omega) | exact wqa))))) | (refine Rm rfl rfl ?_ (fun b => ?_) (fun b => ?_); exact wsa; exact (by (repeat' (first | exact trivial | (refine pend_cons rfl rfl ?_ ?_; first | exact q_len_imm (k := R.B.length) rfl (by omega) (by omega) | exact wqa) | (refine pend_cons_y rfl rfl rfl (by assumption) ?_ ?_; first | exact q_len_imm (k := R.B.length) rfl (by omega) (by omega) | exact wqa))))) | (apply xL_gyt; exact rfl; exact rfl; assumption; exact wqa; exact rfl) | (apply xL_gyf; exact rfl; exact rfl; assumption; exact wqa; exact rfl) | (refine Lyc rfl rfl rfl (by assumption) ?_ rfl ?_; exact wsa) | (refine Lym rfl rfl rfl (by assumption) ?_ rfl (fun b => ?_); exact wsa) | refine xL_gnt rfl rfl (by assumption) rfl ?_ | refine xL_gnf rfl rfl (by assumption) rfl ?_ | (apply xL_gyt; exact rfl; exact rfl; assumption; (first | exact q_len_imm (k := R.B.length) rfl (by omega) (by omega)); exact rfl) | (apply xL_gyf; exact rfl; exact rfl; assumption; (first | exact q_len_imm (k := R.B.length) rfl (by omega) (by omega)); exact rfl) | ((fail_if_success (refine xL_known (c := true) rfl rfl (by assumption) ?_)); (fail_if_success (refine xL_known (c := false) rfl rfl (by assumption) ?_)); (refine xL_split rfl rfl (fun hg => ?_) (fun hg => ?_) <;> (try (exfalso; have hg2 := hg; simp only [decide_eq_true_eq, decide_eq_false_iff_not] at hg2; omega)) <;> (try (exfalso; have hg3 := hg; simp at hg3; done)))) | refine xW_skip ?_ | refine xW_ret ?_ | refine xW_exit ?_ | refine xW_block ?_ | refine xW_scope ?_ | refine xW_label ?_ | refine xW_cond_true rfl (by first | rfl | assumption) ?_ | refine xW_cond_false rfl (by first | rfl | assumption) ?_ | (refine xW_cond rfl (fun hc => ?_) (fun hc => ?_) <;> (try simp only [decide_eq_true_eq, decide_eq_false_iff_not, Bool.not_eq_true', Bool.not_eq_false', Bool.and_eq_true, Bool.or_eq_true, Bool.cond_true_left, Bool.cond_false_right, Decidable.not_not, ne_eq, Bool.and_eq_false_iff, Bool.or_eq_false_iff] at hc) <;> (try contradiction) <;> (try (exfalso; omega)))))
  · refine ⟨_, [refA bd R, A], rfl, (ref_shut bd bw lw vs us R hok inferInstance).trans (Ent.drop inferInstance), ?_, ?_⟩
    · simp [Rf.writeE, Rf.check, hc, oneOr]
    · simp [Rf.write, Rf.check, hc]
  · have hck : R.check i = 10 := by simp at hg; unfold Rf.check; rw [if_neg (by simp [*]), if_pos (by omega)]
    refine ⟨_, [refA bd R, A], rfl, (ref_shut bd bw lw vs us R hok inferInstance).trans (Ent.drop inferInstance), ?_, ?_⟩
    · simp [Rf.writeE, hck, oneOr]
    · simp [Rf.write, hck]
  · have hck : R.check i = 10 := by unfold Rf.check; rw [if_neg (by simp [*]), if_pos (by omega)]
    refine ⟨_, [refA bd R, A], rfl, (ref_shut bd bw lw vs us R hok inferInstance).trans (Ent.drop inferInstance), ?_, ?_⟩
    · simp [Rf.writeE, hck, oneOr]
    · simp [Rf.write, hck]
  all_goals have hck : R.check i = 0 := by simp at hg; unfold Rf.check; rw [if_neg (by simp [*]), if_neg (by omega)]
  · have h64 : s.length ≠ 64 := by omega
    refine ⟨_, [refA bd R, A], rfl, (ref_shut bd bw lw vs us R hok inferInstance).trans (Ent.drop inferInstance), ?_, ?_⟩
    · simp [Rf.writeE, hck, h64, oneOr]
    · simp [Rf.write, hck, h64]
  have h64 : s.length = 64 := by omega
  refine xL_ent (ref_shut bd bw lw vs us R hok inferInstance) ?_
  refine xL_call (rstep_does bd R) rfl rfl ?_
  rintro v H' ⟨rfl, rfl⟩
  simp only [List.cons_append, List.nil_append]
  clear hv hu hvo huo hb1 hl1
  refine ref_open loc_xL fun bw' lw' vs' us' hok1 hv hu hvo huo hb1 hl1 => ?_
  rw [rstep_L] at hu ⊢
  have hpl := pcells_length R.L us' hu
  have hp1 := pcells_one R.L us' huo
  (repeat' (first | (apply xL_q; exact wqa; exact rfl) | refine xL_nil ?_ | refine wtn ?_ | refine xW_seq ?_ | refine xW_region ?_ | refine run_nil ?_ | refine wtr ?_ | refine wtx ?_ | refine wbn ?_ | refine wbr ?_ | refine wbx ?_ | refine wbk rfl ?_ | refine wgn ?_ | refine wgr ?_ | refine wgx ?_ | (apply run_p; exact rfl; intro _; exact wqa) | (apply run_h; exact rfl; exact wqa) | (apply xL_e; exact wea; exact rfl) | (apply xL_e0; exact wea) | (apply xL_n; exact wna; exact rfl; intro b) | (apply Re; exact rfl; exact wea; exact wpa) | (apply Rg; exact rfl; exact wea; exact wpa) | (apply Rn; exact rfl; exact wna; intro _; exact wpa; intro b) | (refine Lc rfl ?_ rfl ?_; exact wsa) | (refine Lc0 rfl ?_ ?_; exact wsa) | (refine Lm rfl ?_ rfl (fun b => ?_); exact wsa) | (refine Rc rfl rfl ?_ ?_ ?_; exact wsa; exact wpa) | (refine Rc0 rfl rfl ?_ ?_ ?_; exact wsa; exact wpa) | (refine Rm rfl rfl ?_ (fun b => ?_) (fun b => ?_); exact wsa; exact wpa) | (apply xL_gyt; exact rfl; exact rfl; assumption; exact wqa; exact rfl) | (apply xL_gyf; exact rfl; exact rfl; assumption; exact wqa; exact rfl) | (refine Lyc rfl rfl rfl (by assumption) ?_ rfl ?_; exact wsa) | (refine Lym rfl rfl rfl (by assumption) ?_ rfl (fun b => ?_); exact wsa) | refine xL_gnt rfl rfl (by assumption) rfl ?_ | refine xL_gnf rfl rfl (by assumption) rfl ?_ | ((fail_if_success (refine xL_known (c := true) rfl rfl (by assumption) ?_)); (fail_if_success (refine xL_known (c := false) rfl rfl (by assumption) ?_)); (refine xL_split rfl rfl (fun hg => ?_) (fun hg => ?_) <;> (try (exfalso; have hg2 := hg; simp only [decide_eq_true_eq, decide_eq_false_iff_not] at hg2; omega)) <;> (try (exfalso; have hg3 := hg; simp at hg3; done)))) | refine xW_skip ?_ | refine xW_ret ?_ | refine xW_exit ?_ | refine xW_block ?_ | refine xW_scope ?_ | refine xW_label ?_ | refine xW_cond_true rfl (by first | rfl | assumption) ?_ | refine xW_cond_false rfl (by first | rfl | assumption) ?_ | (refine xW_cond rfl (fun hc => ?_) (fun hc => ?_) <;> (try simp only [decide_eq_true_eq, decide_eq_false_iff_not, Bool.not_eq_true', Bool.not_eq_false', Bool.and_eq_true, Bool.or_eq_true, Bool.cond_true_left, Bool.cond_false_right, Decidable.not_not, ne_eq, Bool.and_eq_false_iff, Bool.or_eq_false_iff] at hc) <;> (try contradiction) <;> (try (exfalso; omega)))))
  · have hwr : R.write i s = R.step := by unfold Rf.write; rw [if_neg (by simp [hck]), if_neg (by simp [h64]), if_pos hc]
    have hwe : R.writeE i s = 2 := by unfold Rf.writeE; rw [if_neg (by simp [hck]), if_neg (by simp [h64]), if_pos hc]
    rw [← rstep_L R]
    exact ⟨_, [refA bd R.step, A], rfl, (ref_shut bd bw' lw' vs' us' R.step hok1 inferInstance).trans (Ent.drop inferInstance), by rw [hwe]; rfl, by rw [hwr]⟩
  have hwr : R.write i s = { R.step with L := R.L ++ [(i, s)] } := by unfold Rf.write; rw [if_neg (by simp [hck]), if_neg (by simp [h64]), if_neg (by simp [hc])]
  have hwe : R.writeE i s = 0 := by unfold Rf.writeE; rw [if_neg (by simp [hck]), if_neg (by simp [h64]), if_neg (by simp [hc])]
  refine xL_ent (ent_own_empty (sz := 2)) ?_
  refine xL_op rfl rfl (sop_append_imm (xs := []) (k0 := 0) (k := R.L.length) rfl rfl inferInstance hpl hp1 (by simp [Value.cells]) rfl (by omega) (by omega) (by omega) fun v1 hv1 => ?_)
  dsimp only [putE]
  rw [List.nil_append]
  (repeat' (first | (apply xL_q; exact wqa; exact rfl) | refine xL_nil ?_ | refine wtn ?_ | refine xW_seq ?_ | refine xW_region ?_ | refine run_nil ?_ | refine wtr ?_ | refine wtx ?_ | refine wbn ?_ | refine wbr ?_ | refine wbx ?_ | refine wbk rfl ?_ | refine wgn ?_ | refine wgr ?_ | refine wgx ?_ | (apply run_p; exact rfl; intro _; exact wqa) | (apply run_h; exact rfl; exact wqa) | (apply xL_e; exact wea; exact rfl) | (apply xL_e0; exact wea) | (apply xL_n; exact wna; exact rfl; intro b) | (apply Re; exact rfl; exact wea; exact wpa) | (apply Rg; exact rfl; exact wea; exact wpa) | (apply Rn; exact rfl; exact wna; intro _; exact wpa; intro b) | (refine Lc rfl ?_ rfl ?_; exact wsa) | (refine Lc0 rfl ?_ ?_; exact wsa) | (refine Lm rfl ?_ rfl (fun b => ?_); exact wsa) | (refine Rc rfl rfl ?_ ?_ ?_; exact wsa; exact wpa) | (refine Rc0 rfl rfl ?_ ?_ ?_; exact wsa; exact wpa) | (refine Rm rfl rfl ?_ (fun b => ?_) (fun b => ?_); exact wsa; exact wpa) | (apply xL_gyt; exact rfl; exact rfl; assumption; exact wqa; exact rfl) | (apply xL_gyf; exact rfl; exact rfl; assumption; exact wqa; exact rfl) | (refine Lyc rfl rfl rfl (by assumption) ?_ rfl ?_; exact wsa) | (refine Lym rfl rfl rfl (by assumption) ?_ rfl (fun b => ?_); exact wsa) | refine xL_gnt rfl rfl (by assumption) rfl ?_ | refine xL_gnf rfl rfl (by assumption) rfl ?_ | ((fail_if_success (refine xL_known (c := true) rfl rfl (by assumption) ?_)); (fail_if_success (refine xL_known (c := false) rfl rfl (by assumption) ?_)); (refine xL_split rfl rfl (fun hg => ?_) (fun hg => ?_) <;> (try (exfalso; have hg2 := hg; simp only [decide_eq_true_eq, decide_eq_false_iff_not] at hg2; omega)) <;> (try (exfalso; have hg3 := hg; simp at hg3; done)))) | refine xW_skip ?_ | refine xW_ret ?_ | refine xW_exit ?_ | refine xW_block ?_ | refine xW_scope ?_ | refine xW_label ?_ | refine xW_cond_true rfl (by first | rfl | assumption) ?_ | refine xW_cond_false rfl (by first | rfl | assumption) ?_ | (refine xW_cond rfl (fun hc => ?_) (fun hc => ?_) <;> (try simp only [decide_eq_true_eq, decide_eq_false_iff_not, Bool.not_eq_true', Bool.not_eq_false', Bool.and_eq_true, Bool.or_eq_true, Bool.cond_true_left, Bool.cond_false_right, Decidable.not_not, ne_eq, Bool.and_eq_false_iff, Bool.or_eq_false_iff] at hc) <;> (try contradiction) <;> (try (exfalso; omega)))))
  refine xL_ent (ent_own_empty (sz := 1)) ?_
  refine xL_op rfl rfl (sop_append (xs := []) (k0 := 0) (k := s.length) rfl rfl inferInstance (shows_seg hs (by simp)) (bv_one s) (by simp [Value.cells]) rfl (by omega) (by omega) (by omega) fun v2 hv2 => ?_)
  dsimp only [putE]
  rw [List.nil_append]
  refine loc_xL.own_immK (v := v2) (sz := 1) (xs := bv s) inferInstance ?_
  haveI : OneC v2 := ⟨hv2⟩
  (repeat' (first | (apply xL_q; exact wqa; exact rfl) | refine xL_nil ?_ | refine wtn ?_ | refine xW_seq ?_ | refine xW_region ?_ | refine run_nil ?_ | refine wtr ?_ | refine wtx ?_ | refine wbn ?_ | refine wbr ?_ | refine wbx ?_ | refine wbk rfl ?_ | refine wgn ?_ | refine wgr ?_ | refine wgx ?_ | (apply run_p; exact rfl; intro _; exact wqa) | (apply run_h; exact rfl; exact wqa) | (apply xL_e; exact wea; exact rfl) | (apply xL_e0; exact wea) | (apply xL_n; exact wna; exact rfl; intro b) | (apply Re; exact rfl; exact wea; exact wpa) | (apply Rg; exact rfl; exact wea; exact wpa) | (apply Rn; exact rfl; exact wna; intro _; exact wpa; intro b) | (apply xL_op; exact rfl; exact rfl; (first | refine sop_new (n_buildSlice1 (l := [.int .i64 i, v2]) rfl (by simp) (by omega)) (fun b => ?_)); dsimp only [putE]) | (refine run_e' _ rfl rfl ?_; (first | refine sop_new (n_buildSlice1 (l := [.int .i64 i, v2]) rfl (by simp) (by omega)) (fun b => ?_)); dsimp only [putE]; refine ⟨wpa, ?_⟩) | (refine Lc rfl ?_ rfl ?_; exact wsa) | (refine Lc0 rfl ?_ ?_; exact wsa) | (refine Lm rfl ?_ rfl (fun b => ?_); exact wsa) | (refine Rc rfl rfl ?_ ?_ ?_; exact wsa; exact wpa) | (refine Rc0 rfl rfl ?_ ?_ ?_; exact wsa; exact wpa) | (refine Rm rfl rfl ?_ (fun b => ?_) (fun b => ?_); exact wsa; exact wpa) | (apply xL_gyt; exact rfl; exact rfl; assumption; exact wqa; exact rfl) | (apply xL_gyf; exact rfl; exact rfl; assumption; exact wqa; exact rfl) | (refine Lyc rfl rfl rfl (by assumption) ?_ rfl ?_; exact wsa) | (refine Lym rfl rfl rfl (by assumption) ?_ rfl (fun b => ?_); exact wsa) | refine xL_gnt rfl rfl (by assumption) rfl ?_ | refine xL_gnf rfl rfl (by assumption) rfl ?_ | ((fail_if_success (refine xL_known (c := true) rfl rfl (by assumption) ?_)); (fail_if_success (refine xL_known (c := false) rfl rfl (by assumption) ?_)); (refine xL_split rfl rfl (fun hg => ?_) (fun hg => ?_) <;> (try (exfalso; have hg2 := hg; simp only [decide_eq_true_eq, decide_eq_false_iff_not] at hg2; omega)) <;> (try (exfalso; have hg3 := hg; simp at hg3; done)))) | refine xW_skip ?_ | refine xW_ret ?_ | refine xW_exit ?_ | refine xW_block ?_ | refine xW_scope ?_ | refine xW_label ?_ | refine xW_cond_true rfl (by first | rfl | assumption) ?_ | refine xW_cond_false rfl (by first | rfl | assumption) ?_ | (refine xW_cond rfl (fun hc => ?_) (fun hc => ?_) <;> (try simp only [decide_eq_true_eq, decide_eq_false_iff_not, Bool.not_eq_true', Bool.not_eq_false', Bool.and_eq_true, Bool.or_eq_true, Bool.cond_true_left, Bool.cond_false_right, Decidable.not_not, ne_eq, Bool.and_eq_false_iff, Bool.or_eq_false_iff] at hc) <;> (try contradiction) <;> (try (exfalso; omega)))))
  refine xL_op rfl rfl (sop_append (k0 := R.L.length) (k := 1) rfl rfl inferInstance (shows_seg (Seg.whole [.int .i64 i, v2]) (by simp)) (one_cons rfl (one_cons hv2 (by simp))) ?_ hpl ?_ (by omega) (by omega) fun v3 hv3 => ?_)
  · simp [Value.cells]
  · omega
  dsimp only [putE]
  rw [← pcells_snoc R.L us' i s v2 hu]
  refine loc_xL.own_immK (v := v3) (sz := 2) (xs := pcells (R.L ++ [(i, s)]) (us' ++ [v2])) inferInstance ?_
  refine loc_xL.rows_snoc (vs := us') (ss := R.L.map (·.2)) (v := v2) (s := s) inferInstance inferInstance ?_
  rw [show R.L.map (·.2) ++ [s] = (R.L ++ [(i, s)]).map (·.2) by simp]
  (repeat' (first | (apply xL_q; exact wqa; exact rfl) | refine xL_nil ?_ | refine wtn ?_ | refine xW_seq ?_ | refine xW_region ?_ | refine run_nil ?_ | refine wtr ?_ | refine wtx ?_ | refine wbn ?_ | refine wbr ?_ | refine wbx ?_ | refine wbk rfl ?_ | refine wgn ?_ | refine wgr ?_ | refine wgx ?_ | (apply run_p; exact rfl; intro _; exact wqa) | (apply run_h; exact rfl; exact wqa) | (apply xL_e; exact wea; exact rfl) | (apply xL_e0; exact wea) | (apply xL_n; exact wna; exact rfl; intro b) | (apply Re; exact rfl; exact wea; exact wpa) | (apply Rg; exact rfl; exact wea; exact wpa) | (apply Rn; exact rfl; exact wna; intro _; exact wpa; intro b) | (refine Lc rfl ?_ rfl ?_; exact wsa) | (refine Lc0 rfl ?_ ?_; exact wsa) | (refine Lm rfl ?_ rfl (fun b => ?_); exact wsa) | (refine Rc rfl rfl ?_ ?_ ?_; exact wsa; exact wpa) | (refine Rc0 rfl rfl ?_ ?_ ?_; exact wsa; exact wpa) | (refine Rm rfl rfl ?_ (fun b => ?_) (fun b => ?_); exact wsa; exact wpa) | (apply xL_gyt; exact rfl; exact rfl; assumption; exact wqa; exact rfl) | (apply xL_gyf; exact rfl; exact rfl; assumption; exact wqa; exact rfl) | (refine Lyc rfl rfl rfl (by assumption) ?_ rfl ?_; exact wsa) | (refine Lym rfl rfl rfl (by assumption) ?_ rfl (fun b => ?_); exact wsa) | refine xL_gnt rfl rfl (by assumption) rfl ?_ | refine xL_gnf rfl rfl (by assumption) rfl ?_ | ((fail_if_success (refine xL_known (c := true) rfl rfl (by assumption) ?_)); (fail_if_success (refine xL_known (c := false) rfl rfl (by assumption) ?_)); (refine xL_split rfl rfl (fun hg => ?_) (fun hg => ?_) <;> (try (exfalso; have hg2 := hg; simp only [decide_eq_true_eq, decide_eq_false_iff_not] at hg2; omega)) <;> (try (exfalso; have hg3 := hg; simp at hg3; done)))) | refine xW_skip ?_ | refine xW_ret ?_ | refine xW_exit ?_ | refine xW_block ?_ | refine xW_scope ?_ | refine xW_label ?_ | refine xW_cond_true rfl (by first | rfl | assumption) ?_ | refine xW_cond_false rfl (by first | rfl | assumption) ?_ | (refine xW_cond rfl (fun hc => ?_) (fun hc => ?_) <;> (try simp only [decide_eq_true_eq, decide_eq_false_iff_not, Bool.not_eq_true', Bool.not_eq_false', Bool.and_eq_true, Bool.or_eq_true, Bool.cond_true_left, Bool.cond_false_right, Decidable.not_not, ne_eq, Bool.and_eq_false_iff, Bool.or_eq_false_iff] at hc) <;> (try contradiction) <;> (try (exfalso; omega)))))
  refine ⟨_, [refA bd (R.write i s), A], rfl, ?_, by rw [hwe]; rfl, rfl⟩
  rw [hwr] at hok' ⊢
  exact (ref_shut bd bw' v3 vs' (us' ++ [v2]) _ hok' inferInstance).trans (Ent.drop inferInstance)
end Go.Proofs.Ytjnbanjmehkifaa
