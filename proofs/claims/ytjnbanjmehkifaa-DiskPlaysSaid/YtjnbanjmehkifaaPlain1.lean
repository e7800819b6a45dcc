/- The disk and its reference: what relates them, and that every call keeps it. No program is in sight here. -/
import Derived.Test.YtjnbanjmehkifaaLaw2
namespace Go.Proofs.Ytjnbanjmehkifaa
open Go.SL
def sget (m : List (Int × Sec)) (i : Int) : Sec := (aget m i).getD zsec
theorem sget_aput (m : List (Int × Sec)) (k : Int) (x : Sec) (i : Int) : sget (aput m k x) i = if k = i then x else sget m i := by
  unfold sget; rw [aget_aput]; split <;> rfl
theorem sget_lay (l m : List (Int × Sec)) (i : Int) : sget (lay m l) i = rfold (sget m i) i l := by
  induction l generalizing m with
  | nil => rfl
  | cons p l ih =>
    have := ih (aput m p.1 p.2)
    rw [sget_aput] at this
    exact this
def bget (B : List Sec) (i : Int) : Sec := if (B.getD i.toNat []).length = 64 then B.getD i.toNat [] else zsec
theorem bget_set (B : List Sec) (k : Int) (s : Sec) (i : Int) (hi : 0 ≤ i) (hk : 0 ≤ k) (hkl : k < B.length) (hs : s.length = 64) : bget (B.set k.toNat s) i = if k = i then s else bget B i := by
  unfold bget
  by_cases h : k = i
  · subst h
    have hl : k.toNat < B.length := by omega
    have e : (B.set k.toNat s).getD k.toNat [] = s := by simp [List.getD, hl]
    rw [e, if_pos hs, if_pos rfl]
  · have hne : k.toNat ≠ i.toNat := by omega
    have e : (B.set k.toNat s).getD i.toNat [] = B.getD i.toNat [] := by simp [List.getD, hne]
    rw [e, if_neg h]
theorem bget_setl (l : List (Int × Sec)) (B : List Sec) (i : Int) (hi : 0 ≤ i) (hl : ∀ k s, (k, s) ∈ l → s.length = 64 ∧ 0 ≤ k ∧ k < B.length) : bget (setl B l) i = rfold (bget B i) i l := by
  induction l generalizing B with
  | nil => rfl
  | cons p l ih =>
    obtain ⟨k, s⟩ := p
    obtain ⟨h1, h2, h3⟩ := hl k s (List.mem_cons_self ..)
    have := ih (B.set k.toNat s) (fun k' s' hm => by
      obtain ⟨a, b, c⟩ := hl k' s' (List.mem_cons_of_mem _ hm)
      exact ⟨a, b, by simpa using c⟩)
    rw [bget_set B k s i hi h2 h3 h1] at this
    exact this
structure Rel (D : Dk) (R : Rf) : Prop where
  okD : DkOk D
  okR : RfOk R
  len : D.len = R.B.length
  off : D.off = R.off
  steps : D.steps = R.n
  waits : D.waits = R.L
  burns : R.burns = decide (0 ≤ D.fuse)
  left : 0 ≤ D.fuse → R.left = D.fuse
  sure : ∀ i, 0 ≤ i → sget D.sure i = bget R.B i
  now : ∀ i, 0 ≤ i → sget D.now i = rfold (bget R.B i) i R.L
theorem Rel.check {D : Dk} {R : Rf} (h : Rel D R) (i : Int) : D.check i = R.check i := by
  have h1 := h.len
  unfold Dk.check Rf.check
  rw [h.off, h1]
  split
  · rfl
  · split <;> split <;> first | rfl | omega | (split <;> first | rfl | omega)
theorem Rel.gone {D : Dk} {R : Rf} (h : Rel D R) : R.gone = decide (D.fuse = 0) := by
  unfold Rf.gone
  rw [h.burns]
  by_cases h0 : 0 ≤ D.fuse
  · rw [h.left h0]; simp [h0]
  · have : ¬ D.fuse = 0 := by omega
    simp [h0, this]
theorem Dk.check_pos {D : Dk} {i : Int} (h : D.check i = 0) : 0 ≤ i ∧ i < D.len := by
  unfold Dk.check at h
  split at h
  · simp at h
  split at h
  · simp at h
  split at h
  · simp at h
  · omega
theorem Rel.like {D : Dk} {R : Rf} (h : Rel D R) (i : Int) : Like D R i where
  check := h.check i
  read := fun hc => h.now i (Dk.check_pos hc).1
  off := h.off
  steps := h.steps
  len := h.len
  waits := by rw [h.waits]
theorem Rel.step {D : Dk} {R : Rf} (h : Rel D R) : Rel D.step R.step := by
  have hg := h.gone
  have f1 := h.okD.f1
  have f2 := h.okD.f2
  have ok1 := Dk.step_ok h.okD
  have ok2 := Rf.step_ok h.okR
  unfold Dk.step Rf.step at *
  by_cases h0 : D.fuse = 0
  · simp only [h0, if_true, hg, decide_true] at ok1 ok2 ⊢
    exact ⟨ok1, ok2, h.len, rfl, h.steps, h.waits, by simp, by simp, h.sure, h.now⟩
  · simp only [h0, if_false, hg, decide_false, Bool.false_eq_true] at ok1 ok2 ⊢
    refine ⟨ok1, ok2, h.len, h.off, by simp [h.steps], h.waits, ?_, ?_, h.sure, h.now⟩
    · simp only [h.burns]
      by_cases h1 : 0 < D.fuse
      · simp only [h1, if_true]; simp; omega
      · simp only [h1, if_false]
    · intro hf
      simp only [h.burns] at hf ⊢
      by_cases h1 : 0 < D.fuse
      · have h2 : 0 ≤ D.fuse := by omega
        simp [h1, h2, h.left h2]
      · simp only [h1, if_false] at hf; omega
theorem Rel.write {D : Dk} {R : Rf} (h : Rel D R) (i : Int) (s : Sec) : Rel (D.write i s) (R.write i s) ∧ D.writeE i s = R.writeE i s := by
  have hc := h.check i
  have hs := h.step
  have hg := h.gone
  have ok1 := Dk.write_ok h.okD i s
  have ok2 := Rf.write_ok h.okR i s
  unfold Dk.write Rf.write Dk.writeE Rf.writeE at *
  rw [← hc] at *
  by_cases h1 : D.check i = 0
  · by_cases h2 : s.length = 64
    · by_cases h3 : D.fuse = 0
      · simp only [h1, h2, hg, h3, Dk.stepE, ne_eq, not_true, if_false, if_true, decide_true] at ok1 ok2 ⊢
        simp
        exact hs
      · simp only [h1, h2, hg, h3, Dk.stepE, ne_eq, not_true, if_false, decide_false, Bool.false_eq_true] at ok1 ok2 ⊢
        refine ⟨⟨ok1, ok2, hs.len, hs.off, hs.steps, ?_, hs.burns, hs.left, hs.sure, ?_⟩, trivial⟩
        · simp only [h.waits]
        · intro j hj
          have := h.now j hj
          simp only [sget_aput, rfold_snoc, rstep_B, this]
    · simp [h1, h2]
      exact h
  · simp [h1]
    exact h
theorem Rel.barrier {D : Dk} {R : Rf} (h : Rel D R) : Rel D.barrier R.barrier ∧ D.barrierE = R.barrierE := by
  have hs := h.step
  have hg := h.gone
  have ok1 := Dk.barrier_ok h.okD
  have ho := h.off
  unfold Dk.barrier Rf.barrier Dk.barrierE Rf.barrierE at *
  rw [← ho] at *
  by_cases h1 : D.off = true
  · simp only [h1, if_true] at ok1 ⊢
    exact ⟨h, trivial⟩
  · by_cases h3 : D.fuse = 0
    · simp only [h1, hg, h3, Dk.stepE, if_true, decide_true, Bool.false_eq_true, if_false] at ok1 ⊢
      simp
      exact hs
    · simp only [h1, hg, h3, Dk.stepE, if_false, decide_false, Bool.false_eq_true, ne_eq, not_true] at ok1 ⊢
      have hl := h.okR.l
      have ok2 : RfOk (R.step.settle R.L) := Rf.settle_ok hs.okR fun k s hm => (hl k s hm).1
      refine ⟨⟨ok1, ok2, ?_, hs.off, hs.steps, rfl, hs.burns, hs.left, ?_, ?_⟩, trivial⟩
      · simp only [Rf.settle, setl_length]; exact hs.len
      · intro j hj
        simp only [Rf.settle, rstep_B]
        rw [sget_lay, bget_setl _ _ _ hj hl, h.sure j hj, h.waits]
      · intro j hj
        simp only [Rf.settle, rstep_B, step_now]
        rw [bget_setl _ _ _ hj hl, h.now j hj]
        rfl
theorem Rel.boot {D : Dk} {R : Rf} (h : Rel D R) (keep : List Int) : Rel (D.boot keep) (R.boot keep) := by
  have ok1 := Dk.boot_ok h.okD keep
  have ok2 := Rf.boot_ok h.okR keep
  have hl : ∀ k s, (k, s) ∈ kept keep R.L R.L.length → s.length = 64 ∧ 0 ≤ k ∧ k < R.B.length := fun k s hm => h.okR.l k s (kept_mem hm)
  have hw := h.waits
  unfold Dk.boot Rf.boot at *
  have hsure : ∀ j, 0 ≤ j → sget (lay D.sure (kept keep D.waits D.waits.length)) j = bget (setl R.B (kept keep R.L R.L.length)) j := by
    intro j hj
    rw [sget_lay, bget_setl _ _ _ hj hl, h.sure j hj, hw]
  refine ⟨ok1, ok2, ?_, rfl, h.steps, rfl, ?_, ?_, hsure, hsure⟩
  · simp only [Rf.settle, setl_length]; exact h.len
  · simp
  · simp
theorem Rel.setFuse {D : Dk} {R : Rf} (h : Rel D R) (k : Int) (hk : k ≤ 9223372036854775807) : Rel (D.setFuse k) (R.setFuse k) := by
  have ok1 := Dk.setFuse_ok h.okD k hk
  have ok2 := Rf.setFuse_ok h.okR k hk
  have ho := h.off
  by_cases h1 : D.off = true
  · have h2 : R.off = true := by rw [← ho]; exact h1
    simp only [Dk.setFuse, Rf.setFuse, h1, h2, if_true] at ok1 ok2 ⊢
    exact h
  · have h2 : ¬ R.off = true := by rw [← ho]; exact h1
    have e1 : D.setFuse k = { D with fuse := max k (-1) } := by unfold Dk.setFuse; rw [if_neg h1]
    have e2 : R.setFuse k = { R with burns := decide (k ≥ 0), left := k } := by unfold Rf.setFuse; rw [if_neg h2]
    rw [e1] at ok1 ⊢
    rw [e2] at ok2 ⊢
    refine ⟨ok1, ok2, h.len, h.off, h.steps, h.waits, ?_, ?_, h.sure, h.now⟩
    · simp only [decide_eq_decide]; omega
    · intro h2
      simp only at h2 ⊢
      omega
theorem Rel.new (k : Nat) (h1 : 1 ≤ k) (h2 : k ≤ 8192) : Rel ⟨k, [], [], [], false, -1, 0⟩ (Rf.new k) := by
  have hb : ∀ i : Int, bget (List.replicate k []) i = zsec := by
    intro i
    unfold bget
    have : ((List.replicate k ([] : Sec)).getD i.toNat []) = [] := by
      rw [List.getD, List.getElem?_replicate]
      split <;> rfl
    rw [this]; rfl
  refine ⟨⟨by simp only; omega, by simp only; omega, by simp, by simp, by simp, by simp, by simp⟩, Rf.new_ok k h2, by simp, rfl, rfl, rfl, by simp, by simp, ?_, ?_⟩
  · intro i _; simp only [Rf.new]; rw [hb]; rfl
  · intro i _; simp only [Rf.new]; rw [hb]; rfl
end Go.Proofs.Ytjnbanjmehkifaa
