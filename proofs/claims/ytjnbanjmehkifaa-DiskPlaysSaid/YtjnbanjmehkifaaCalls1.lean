/- The contracts of the disk and of its reference, found by themselves. -/
import Derived.Test.YtjnbanjmehkifaaLaw3
import Derived.Test.YtjnbanjmehkifaaPlain1
namespace Go.Proofs.Ytjnbanjmehkifaa
open Go.SL
set_option maxRecDepth 20000
set_option linter.unusedSimpArgs false
set_option linter.unusedVariables false
attribute [local irreducible] thenS inBlockS noGotoS Quiet SOp xW xL Does RunP AnyS Tells Eff New OpRes SatH pt ro roAll pureA exA allA STOP
section
variable {H F F2 : List Assn}
instance {bd : Nat} {D : Dk} [hp1 : HasC (diskA bd) H D F] : DetC Try.prog 69 [.pointer (some ⟨bd, 0, none⟩)] H (True) (.int .i64 D.len) (diskA bd D :: F) := DetC.of1 (HasC.pick hp1) fun h => len_does bd D
instance {bd : Nat} {D : Dk} [hp1 : HasC (diskA bd) H D F] : DetC Try.prog 68 [.pointer (some ⟨bd, 0, none⟩)] H (True) (.int .i64 D.steps) (diskA bd D :: F) := DetC.of1 (HasC.pick hp1) fun h => steps_does bd D
instance {bd : Nat} {D : Dk} [hp1 : HasC (diskA bd) H D F] : DetC Try.prog 60 [.pointer (some ⟨bd, 0, none⟩)] H (True) (.bool (!D.off)) (diskA bd D :: F) := DetC.of1 (HasC.pick hp1) fun h => on_does bd D
instance {bd : Nat} {D : Dk} [hp1 : HasC (diskA bd) H D F] : DetC Try.prog 59 [.pointer (some ⟨bd, 0, none⟩)] H (True) (.int .i64 D.waits.length) (diskA bd D :: F) := DetC.of1 (HasC.pick hp1) fun h => waiting_does bd D
instance {bd : Nat} {D : Dk} {k : Int} [hp1 : HasC (diskA bd) H D F] : DetC Try.prog 21 [.pointer (some ⟨bd, 0, none⟩), .int .i64 k] H (k ≤ 9223372036854775807) (.tuple #[]) (diskA bd (D.setFuse k) :: F) := DetC.of1 (HasC.pick hp1) fun h => fuse_does bd D k h
instance {bd : Nat} {D : Dk} [hp1 : HasC (diskA bd) H D F] : DetC Try.prog 18 [.pointer (some ⟨bd, 0, none⟩)] H (D.waits.length < 1000000000000) (.int .i64 D.barrierE) (diskA bd D.barrier :: F) := DetC.of1 (HasC.pick hp1) fun h => barrier_does bd D h
instance {bd : Nat} {D : Dk} [hp1 : HasC (diskA bd) H D F] : MakC Try.prog 12 [.pointer (some ⟨bd, 0, none⟩)] H (D.waits.length ≤ 1000000000000) (fun b => .pointer (some ⟨b, 0, none⟩)) (fun b => diskA bd D :: diskA b D :: F) := MakC.of1 (HasC.pick hp1) fun h => clone_does bd D h
instance {bd : Nat} {D : Dk} {p k cap : Nat} {c : Array Value} {s : List UInt8} {e : TypeId} {fr : Nat × Nat} {i : Int} [hp1 : HasC (diskA bd) H D F] [hp2 : PtC' F p (.cells c e fr) F2] [hb : BytesC c s] : DetC Try.prog 16 [.pointer (some ⟨bd, 0, none⟩), .int .i64 i, .slice (some ⟨p, 0, none⟩) k cap] H (s.length = k ∧ D.waits.length < 1000000000000) (.int .i64 (D.writeE i s)) (diskA bd (D.write i s) :: pt p (.cells c e fr) :: F2) := DetC.of2 (HasC.pick hp1) (PtC'.pick hp2) fun h => by obtain ⟨rfl, h2⟩ := h; have := hb.get; subst this; exact write_does bd D i (pt p (.cells (bv s).toArray e fr)) p 0 cap _ _ _ s (Seg.whole _) h2
instance {bd : Nat} {R : Rf} {p k cap : Nat} {c : Array Value} {s : List UInt8} {e : TypeId} {fr : Nat × Nat} {i : Int} [hp1 : HasC (refA bd) H R F] [hp2 : PtC' F p (.cells c e fr) F2] [hb : BytesC c s] : DetC Try.prog 17 [.pointer (some ⟨bd, 0, none⟩), .int .i64 i, .slice (some ⟨p, 0, none⟩) k cap] H (s.length = k ∧ k < 1000000000000 ∧ R.L.length < 1000000000000) (.int .i64 (R.writeE i s)) (refA bd (R.write i s) :: pt p (.cells c e fr) :: F2) := DetC.of2 (HasC.pick hp1) (PtC'.pick hp2) fun h => by obtain ⟨rfl, h1, h2⟩ := h; have := hb.get; subst this; exact rwrite_does bd R i (pt p (.cells (bv s).toArray e fr)) p 0 cap _ _ _ s (Seg.whole _) h2 h1
instance {bd : Nat} {R : Rf} {k : Int} [hp1 : HasC (refA bd) H R F] : DetC Try.prog 22 [.pointer (some ⟨bd, 0, none⟩), .int .i64 k] H (k ≤ 9223372036854775807) (.tuple #[]) (refA bd (R.setFuse k) :: F) := DetC.of1 (HasC.pick hp1) fun h => rfuse_does bd R k h
instance {bd : Nat} {R : Rf} [hp1 : HasC (refA bd) H R F] : DetC Try.prog 19 [.pointer (some ⟨bd, 0, none⟩)] H (R.L.length < 1000000000000) (.int .i64 R.barrierE) (refA bd R.barrier :: F) := DetC.of1 (HasC.pick hp1) fun h => rbarrier_does bd R h
instance {bd : Nat} {R : Rf} [hp1 : HasC (refA bd) H R F] : MakC Try.prog 13 [.pointer (some ⟨bd, 0, none⟩)] H (True) (fun b => .pointer (some ⟨b, 0, none⟩)) (fun b => refA bd R :: refA b R :: F) := MakC.of1 (HasC.pick hp1) fun h => rclone_does bd R
instance {c n : Int} : DetC Try.prog 14 [.int .i64 c, .int .i64 n] H (-9223372036854775808 ≤ c ∧ c ≤ 9223372036854775807 ∧ 0 < n ∧ n ≤ 1000000) (.int .i64 (kindZ c n)) H := DetC.of0 fun h => kind_does c n h.1 h.2.1 h.2.2.1 h.2.2.2
instance {c : UInt8} : MakC Try.prog 15 [u8v c] H True (fun b => .slice (some ⟨b, 0, none⟩) 64 64) (fun b => pt b (.cells (bv (List.replicate 64 c)).toArray 5 (0, 0)) :: H) := MakC.of0 fun _ => full_does c
instance : DetC Try.prog 9 [] H True (.bool true) H := DetC.of0 fun _ => shown_does
instance {bd cd : Nat} {D : Dk} {R : Rf} {i : Int} [hp1 : HasC (diskA bd) H D F] [hp2 : HasC (refA cd) F R F2] : DetC Try.prog 25 [.pointer (some ⟨bd, 0, none⟩), .pointer (some ⟨cd, 0, none⟩), .int .i64 i] H (Rel D R ∧ R.L.length < 1000000000000) (.bool true) (diskA bd D :: refA cd R :: F2) := DetC.of2 (HasC.pick hp1) (HasC.pick hp2) fun h => alike_does bd cd D R i (h.1.like i) h.2
end
end Go.Proofs.Ytjnbanjmehkifaa
