/- The rules of slices, byte strings and maps. -/
import Derived.Test.YtjnbanjmehkifaaSlDraw
namespace Go.SL

def u8v (b : UInt8) : Value := .int .u8 b.toNat
def bv (s : List UInt8) : List Value := s.map u8v
@[simp] theorem bv_length (s : List UInt8) : (bv s).length = s.length := by simp [bv]
theorem bv_append (s t : List UInt8) : bv (s ++ t) = bv s ++ bv t := by simp [bv]
theorem bv_one (s : List UInt8) : ∀ v ∈ bv s, v.oneCell' = true := by
  intro v hv
  obtain ⟨b, _, rfl⟩ := List.mem_map.1 hv
  rfl

/-- from place o on the cells are l's -/
def Seg (c : Array Value) (o : Nat) (l : List Value) : Prop := o + l.length ≤ c.size ∧ ∀ i, i < l.length → c[o + i]? = l[i]?

theorem Seg.extract {c : Array Value} {o : Nat} {l : List Value} (h : Seg c o l) : c.extract o (o + l.length) = l.toArray := by
  apply Array.ext
  · simp; have := h.1; omega
  · intro i h1 h2
    have hi : i < l.length := by simpa using h2
    have := h.2 i hi
    have hs := h.1
    rw [Array.getElem?_eq_getElem (by omega), List.getElem?_eq_getElem hi] at this
    simpa using this
theorem Seg.of_append {p l r : List Value} : Seg (p ++ l ++ r).toArray p.length l := by
  refine ⟨by simp, fun i hi => ?_⟩
  simp [List.getElem?_append, hi]
theorem Seg.whole (l : List Value) : Seg l.toArray 0 l := ⟨by simp, fun i _ => by simp⟩
theorem Seg.head {l r : List Value} : Seg (l ++ r).toArray 0 l := ⟨by simp, fun i hi => by simp [List.getElem?_append, hi]⟩
theorem Seg.sub {c : Array Value} {o : Nat} {l : List Value} (h : Seg c o l) (i k : Nat) (hk : i + k ≤ l.length) : Seg c (o + i) ((l.drop i).take k) := by
  refine ⟨by simp; have := h.1; omega, fun j hj => ?_⟩
  simp only [List.length_take, List.length_drop] at hj
  have := h.2 (i + j) (by omega)
  rw [Nat.add_assoc, this]
  simp [show j < k by omega]

section
variable {P : Program} {n : Nat} {Q : Post} {env : Env} {H : List Assn} {dst : Option Tmp} {ty : TypeId} {pos : String} {after : Array Edge} {g : Option (Nat × Bool)}

/-- loading an aggregate whose cells are known -/
theorem q_load_seg {t : TypeId} {x : Operand} {b o size bytes : Nat} {zero : Value} {c : Array Value} {e : TypeId} {fr : Nat × Nat} {l : List Value} [hT : TyC P t true size bytes zero] [hr : RdC H b (.cells c e fr)]
    (hx : evS env x = some (.pointer (some ⟨b, o, none⟩))) (hs : Seg c o l) (hl : l.length = size) : Quiet P n ⟨dst, .load t x, ty, pos, after, g⟩ env H (.agg l.toArray) := by
  have h := q_load_agg (P := P) (n := n) (H := H) (dst := dst) (ty := ty) (pos := pos) (after := after) (g := g) (hT := hT) (hr := hr) hx (by have := hs.1; omega)
  rw [← hl, hs.extract] at h
  exact h

/-! text -/
theorem bytesLoop {P : Program} {φ : Value → ByteArray → Sem (ForInStep ByteArray)} (hφ : ∀ b r, φ (u8v b) r = pure (ForInStep.yield (r.push b))) (s : List UInt8) : ∀ (acc : ByteArray) (w : World),
    (forIn (m := Sem) (bv s).toArray acc φ).run P w = .ok ⟨acc.data ++ s.toArray⟩ w := by
  induction s with
  | nil => intro acc w; simp [bv]
  | cons b s ih =>
    intro acc w
    have := ih (acc.push b) w
    simp only [bv, List.map_cons, List.forIn_toArray, List.forIn_cons, hφ, pure_bind] at this ⊢
    rw [this]
    congr 1
    apply ByteArray.ext
    simp [ByteArray.push]

theorem q_conv_b2s {t d : TypeId} {e ee : TypeId} {x : Operand} {b o cap : Nat} {c : Array Value} {fr : Nat × Nat} {s : List UInt8} [hS : SliceC P t e] [hI : IntC P e .u8] [hD : StrC P d] [hr : RdC H b (.cells c ee fr)]
    (hx : evS env x = some (.slice (some ⟨b, o, none⟩) s.length cap)) (hs : Seg c o (bv s)) : Quiet P n ⟨dst, .convert t d x, ty, pos, after, g⟩ env H (.string ⟨s.toArray⟩) := by
  intro a w m f se sh
  have h1 : (loadCells ⟨b, o, none⟩ s.length).run P w = .ok (bv s).toArray w := by
    rw [run_xloadCells (P := P) (sh.rd hr.get) (by have := hs.1; simpa using this)]
    have := hs.extract
    rw [bv_length] at this
    rw [this]
  simp only [execOp, evS_sound se hx, convert, Sem.run_bind, run_under _ hS.get, run_under _ hD.get, Result.andThen_ok, run_under _ hI.get, Conv.bytesToString, h1]
  rw [bytesLoop (fun b r => by simp [u8v]) s]
  simp
theorem q_conv_nil2s {t d : TypeId} {e : TypeId} {x : Operand} {k cap : Nat} [hS : SliceC P t e] [hI : IntC P e .u8] [hD : StrC P d]
    (hx : evS env x = some (.slice none k cap)) : Quiet P n ⟨dst, .convert t d x, ty, pos, after, g⟩ env H (.string .empty) := by
  intro a w m f se sh
  simp [execOp, evS_sound se hx, convert, run_under _ hS.get, run_under _ hD.get, run_under _ hI.get, Conv.bytesToString]

/-! building -/
theorem putAt_list : ∀ (l M : List Value) (p r : List Value), M.length = l.length → putAt (p ++ M ++ r).toArray p.length l = (p ++ l ++ r).toArray
  | [], M, p, r, h => by
    have : M = [] := List.length_eq_zero_iff.1 h
    subst this; rfl
  | v :: l, [], p, r, h => by simp at h
  | v :: l, u :: M, p, r, h => by
    have ih := putAt_list l M (p ++ [v]) r (by simpa using h)
    simp only [putAt]
    have h1 : ((p ++ u :: M ++ r).toArray.setIfInBounds p.length v) = (p ++ [v] ++ M ++ r).toArray := by
      simp
    rw [h1]
    simp only [List.length_append, List.length_cons, List.length_nil] at ih
    rw [ih]
    simp

theorem foldSet (l : List Value) : ∀ (k off : Nat) (A : Array Value), (l.zipIdx k).foldl (fun a (p : Value × Nat) => a.setIfInBounds (off + p.2) p.1) A = putAt A (off + k) l := by
  induction l with
  | nil => intro k off A; rfl
  | cons v l ih =>
    intro k off A
    simp only [List.zipIdx_cons, List.foldl_cons, putAt]
    rw [ih (k + 1) off]
    rfl
theorem foldSetA (c : Array Value) (off : Nat) (A : Array Value) : c.zipIdx.foldl (fun cs (p : Value × Nat) => cs.setIfInBounds (off + p.2) p.1) A = putAt A off c.toList := by
  rw [← Array.foldl_toList, Array.toList_zipIdx]
  exact foldSet c.toList 0 off A

def flatP (sz : Nat) : List (Nat × Value) → Nat → Option (List Value)
  | [], _ => some []
  | (i, v) :: r, k => bif Nat.beq i k then (flatP sz r (k + 1)).map (v.cells.toList ++ ·) else none

theorem fill_flat {sz : Nat} : ∀ (ps : List (Nat × Value)) (k : Nat) (l p q : List Value), flatP sz ps k = some l → (∀ x ∈ ps, x.2.cells.size = sz) → p.length = k * sz → q.length = ps.length * sz →
    Instr.fill (fun i => some (i * sz, sz)) (p ++ q).toArray ps = some (p ++ l).toArray
  | [], k, l, p, q, h, _, _, hq => by
    simp [flatP] at h; subst h
    have : q = [] := List.length_eq_zero_iff.1 (by simpa using hq)
    subst this; rfl
  | (i, v) :: r, k, l, p, q, h, hs, hp, hq => by
    simp only [flatP] at h
    cases hb : Nat.beq i k with
    | false => simp [hb] at h
    | true =>
      have := Nat.eq_of_beq_eq_true hb; subst this
      simp only [hb, cond_true] at h
      cases hr : flatP sz r (i + 1) with
      | none => simp [hr] at h
      | some l' =>
        simp only [hr, Option.map_some, Option.some.injEq] at h
        subst h
        have hv : v.cells.size = sz := hs (i, v) (List.mem_cons_self ..)
        have hq' : q.length = sz + r.length * sz := by simp only [List.length_cons] at hq; rw [hq, Nat.succ_mul]; omega
        obtain ⟨M, R, rfl, hM⟩ : ∃ M R, q = M ++ R ∧ M.length = sz := ⟨q.take sz, q.drop sz, by simp, by simp; omega⟩
        have hR : R.length = r.length * sz := by simp at hq'; omega
        simp only [Instr.fill, hv]
        rw [if_neg]
        · rw [foldSetA]
          rw [← hp]
          have hpa := putAt_list v.cells.toList M p R (by simp [hM, hv])
          rw [← List.append_assoc, hpa]
          have ih := fill_flat r (i + 1) l' (p ++ v.cells.toList) R hr (fun x hx => hs x (List.mem_cons_of_mem _ hx)) (by simp [hp, hv, Nat.succ_mul]) hR
          rw [ih, List.append_assoc]
        · simp only [ne_eq, not_true_eq_false, decide_false, Bool.false_or, decide_eq_true_eq, List.size_toArray, List.length_append, hM]
          omega

def evP (env : Env) : List (Nat × Operand) → Option (List (Nat × Value))
  | [] => some []
  | (i, x) :: l => match evS env x, evP env l with
    | some v, some r => some ((i, v) :: r)
    | _, _ => none
theorem evP_sound {n : Nat} {env : Env} {a : Act} (hs : SatE n env a) : ∀ {l : List (Nat × Operand)} {vs : List (Nat × Value)}, evP env l = some vs → l.map (fun p => (p.1, a.eval p.2)) = vs
  | [], vs, h => by simp [evP] at h; simp [h]
  | (i, x) :: l, vs, h => by
    simp only [evP] at h
    cases hx : evS env x with
    | none => simp [hx] at h
    | some v =>
      cases hl : evP env l with
      | none => simp [hx, hl] at h
      | some r => simp [hx, hl] at h; subst h; simp [evS_sound hs hx, evP_sound hs hl]

/-- a slice literal whose elements are all given -/
theorem n_buildSlice {t e : TypeId} {agg : Bool} {size bytes len : Nat} {zero : Value} {xs : List (Nat × Operand)} {ps : List (Nat × Value)} {l : List Value} [hS : SliceC P t e] [hE : TyC P e agg size bytes zero]
    (hx : evP env xs = some ps) (hf : flatP size ps 0 = some l) (hl : ps.length = len) (hsz : ∀ x ∈ ps, x.2.cells.size = size) (hb : len * size ≤ 16777216) :
    New P n ⟨dst, .buildSlice t len xs.toArray, ty, pos, after, g⟩ env H (fun b => .slice (some ⟨b, 0, none⟩) len len) (fun b => pt b (.cells l.toArray e (0, 0)) :: H) := by
  intro a w m f se sh
  refine ⟨w.heap.size, { w with heap := w.heap.push (.cells l.toArray e (0, 0)) }, m, ?_, sh.new rfl, Hp.le_refl m, ⟨rfl, rfl, rfl⟩⟩
  have hparts : (xs.toArray.map fun (p : Nat × Operand) => (p.1, a.eval p.2)).toList = ps := by simp [evP_sound se hx]
  have hfill : ∀ A : Array Value, A.size = len * size → Instr.fill (fun i => some (i * size, size)) A ps = some l.toArray := by
    intro A hA
    have := fill_flat ps 0 l [] A.toList hf hsz (by simp) (by simp [hA, hl])
    simpa using this
  simp only [execOp, Instr.buildSlice, Sem.run_bind, run_under _ hS.get, Result.andThen_ok, run_xsizeOf (h := hE), hparts]
  rw [if_neg (by omega)]
  simp only [Sem.run_bind, Sem.run_pure, Result.andThen_ok]
  by_cases h0 : len * size = 0
  · have hf0 := hfill (Array.map (fun x => (#[] : Array Value)[x % (#[] : Array Value).size]!) (Array.range 0)) (by rw [h0]; simp)
    simp only [h0, if_true, pure_bind, hf0]
    simp [newRow]
  · have hf0 := hfill (Array.map (fun x => zero.cells[x % zero.cells.size]!) (Array.range (len * size))) (by simp)
    simp only [h0, if_false, Sem.run_bind, run_zeroValue (h := hE), Sem.run_pure, Result.andThen_ok, hf0]
    simp [newRow]
end

class NthC (l : List (Nat × Nat)) (i : Nat) (o s : outParam Nat) : Prop where
  get : l[i]? = some (o, s)
instance NthC.zero {o s : Nat} {l : List (Nat × Nat)} : NthC ((o, s) :: l) 0 o s := ⟨rfl⟩
instance NthC.succ {x : Nat × Nat} {i o s : Nat} {l : List (Nat × Nat)} [h : NthC l i o s] : NthC (x :: l) (i + 1) o s := ⟨by simpa using h.get⟩
class OneC (v : Value) : Prop where
  one : v.oneCell' = true
instance {b : Bool} : OneC (.bool b) := ⟨rfl⟩
instance {k : IntKind} {i : Int} : OneC (.int k i) := ⟨rfl⟩
instance {s : ByteArray} : OneC (.string s) := ⟨rfl⟩
instance {a : Option Addr} : OneC (.pointer a) := ⟨rfl⟩
instance {a : Option Addr} {l c : Nat} : OneC (.slice a l c) := ⟨rfl⟩
instance {r : Option Nat} : OneC (.map r) := ⟨rfl⟩
instance {f : Fn} {x y : Array Value} : OneC (.func f x y) := ⟨rfl⟩
instance : OneC .nilFunc := ⟨rfl⟩
instance : OneC .nilIface := ⟨rfl⟩
instance {t : TypeId} {v : Value} : OneC (.iface t v) := ⟨rfl⟩

class BuildC (pl : List (Nat × Nat)) (z : Array Value) (ps : List (Nat × Value)) (out : outParam (Array Value)) : Prop where
  get : Instr.fill (fun i => pl[i]?) z ps = some out
instance BuildC.nil {pl : List (Nat × Nat)} {z : Array Value} : BuildC pl z [] z := ⟨rfl⟩
instance BuildC.cons {pl : List (Nat × Nat)} {z z' out : Array Value} {i o : Nat} {v : Value} {ps : List (Nat × Value)} [hn : NthC pl i o 1] [h1 : OneC v] [hs : SetA z o v z'] [hr : BuildC pl z' ps out] : BuildC pl z ((i, v) :: ps) out := ⟨by
  have hc := cells_one h1.one
  have hlt := hs.lt
  simp only [Instr.fill, hn.get, hc]
  rw [if_neg (by simp; omega)]
  have : (#[v].zipIdx.foldl (fun cs (p : Value × Nat) => cs.setIfInBounds (o + p.2) p.1) z) = z' := by
    rw [foldSetA]; exact hs.eq
  rw [this]
  exact hr.get⟩

/-- a struct type's places: where each field begins, and how many cells it has -/
class StructC (P : Program) (t : TypeId) (pl : outParam (List (Nat × Nat))) : Prop where
  get : ∃ fs, P.underlying t = some (.struct fs) ∧ fs.toList.map (fun f => (f.offset, (P.info? f.type).map (·.size))) = pl.map fun p => (p.1, some p.2)

section
variable {P : Program} {n : Nat} {Q : Post} {env : Env} {H : List Assn} {dst : Option Tmp} {ty : TypeId} {pos : String} {after : Array Edge} {g : Option (Nat × Bool)}

theorem run_places {w : World} : ∀ (fs : List Field) (pl : List (Nat × Nat)), fs.map (fun f => (f.offset, (P.info? f.type).map (·.size))) = pl.map (fun p => (p.1, some p.2)) →
    (fs.mapM (m := Sem) fun f => do pure (f.offset, ← sizeOf f.type)).run P w = .ok pl w
  | [], [], _ => rfl
  | [], _ :: _, h => by simp at h
  | _ :: _, [], h => by simp at h
  | f :: fs, p :: pl, h => by
    simp only [List.map_cons, List.cons.injEq, Prod.mk.injEq] at h
    obtain ⟨⟨h1, h2⟩, h3⟩ := h
    have ih := run_places (w := w) fs pl h3
    cases hi : P.info? f.type with
    | none => simp [hi] at h2
    | some i =>
      simp only [hi, Option.map_some, Option.some.injEq] at h2
      simp only [List.mapM_cons, Sem.run_bind, sizeOf, typeInfo, run_program, Result.andThen_ok, hi, Sem.run_pure] at ih ⊢
      rw [ih]
      simp [h1, h2]

theorem run_build {t : TypeId} {size bytes : Nat} {z : Array Value} {pl : List (Nat × Nat)} {ps : List (Nat × Value)} {out : Array Value} {parts : Array (Nat × Value)} {w : World} [hT : TyC P t true size bytes (.agg z)] [hS : StructC P t pl]
    (hp : parts.toList = ps) (hf : Instr.fill (fun i => pl[i]?) z ps = some out) : (Instr.build t parts).run P w = .ok (.agg out) w := by
  obtain ⟨fs, h1, h2⟩ := hS.get
  have hm := run_places (P := P) (w := w) fs.toList pl h2
  simp only [Instr.build, Sem.run_bind, run_zeroValue (h := hT), Result.andThen_ok, run_under _ h1, Value.cells]
  rw [Array.mapM_eq_mapM_toList]
  simp only [Sem.run_map, hm, Result.andThen_ok, hp, List.getElem?_toArray, hf, Sem.run_pure]

theorem q_build {t : TypeId} {size bytes : Nat} {z out : Array Value} {pl : List (Nat × Nat)} {xs : List (Nat × Operand)} {ps : List (Nat × Value)} [hT : TyC P t true size bytes (.agg z)] [hS : StructC P t pl]
    (hx : evP env xs = some ps) [hB : BuildC pl z ps out] : Quiet P n ⟨dst, .build t xs.toArray, ty, pos, after, g⟩ env H (.agg out) := by
  intro a w m f se sh
  have hparts : (xs.toArray.map fun (p : Nat × Operand) => (p.1, a.eval p.2)).toList = ps := by simp [evP_sound se hx]
  simp only [execOp, Sem.run_bind, run_build (P := P) (t := t) (pl := pl) (hT := hT) (hS := hS) hparts hB.get, Result.andThen_ok, Sem.run_pure]

/-- a struct of one cell and of an aggregate behind it -/
theorem q_build_one_agg {t : TypeId} {size bytes k : Nat} {z : Array Value} {x y : Operand} {u : Value} {l : List Value} [hT : TyC P t true size bytes (.agg z)] [hS : StructC P t [(0, 1), (1, k)]] [hu : OneC u]
    (hx : evS env x = some u) (hy : evS env y = some (.agg l.toArray)) (hk : l.length = k) (hz : z.size = k + 1) :
    Quiet P n ⟨dst, .build t #[(0, x), (1, y)], ty, pos, after, g⟩ env H (.agg (u :: l).toArray) := by
  intro a w m f se sh
  have hf : Instr.fill (fun i => [(0, 1), (1, k)][i]?) z [(0, u), (1, .agg l.toArray)] = some (u :: l).toArray := by
    have hcu := cells_one hu.one
    have hcl : (Value.agg l.toArray).cells = l.toArray := rfl
    simp only [Instr.fill, hcu, hcl, List.getElem?_cons_zero, List.getElem?_cons_succ]
    rw [if_neg (by simp [hz])]
    simp only [foldSetA]
    rw [if_neg (by simp [hk, putAt, hz]; omega)]
    obtain ⟨zl, rfl⟩ : ∃ zl : List Value, z = zl.toArray := ⟨z.toList, by simp⟩
    match zl, hz with
    | [], hz => simp at hz
    | z0 :: zr, hz =>
      have hzr : zr.length = l.length := by simp at hz; omega
      have h2 := putAt_list l zr [u] [] hzr
      simp [putAt] at h2 ⊢
      exact h2
  simp only [execOp]
  simp only [List.map_toArray, List.map_cons, List.map_nil, evS_sound se hx, evS_sound se hy, Sem.run_bind]
  rw [run_build (P := P) (t := t) (pl := [(0, 1), (1, k)]) (hT := hT) (hS := hS) rfl hf]
  simp

/-- making a slice of noughts -/
theorem n_makeSlice {t e : TypeId} {bytes : Nat} {z : Value} {x y : Operand} {j k : IntKind} {L C : Nat} [hS : SliceC P t e] [hE : TyC P e false 1 bytes z] [hz : OneC z]
    (hx : evS env x = some (.int j L)) (hy : evS env y = some (.int k C)) (h1 : L ≤ C) (h2 : bytes * C ≤ 281474976710656) (h3 : C ≤ 9223372036854775807) :
    New P n ⟨dst, .makeSlice t x y, ty, pos, after, g⟩ env H (fun b => .slice (some ⟨b, 0, none⟩) L C) (fun b => pt b (.cells (List.replicate C z).toArray e (0, 0)) :: H) := by
  intro a w m f se sh
  refine ⟨w.heap.size, { w with heap := w.heap.push (.cells (List.replicate C z).toArray e (0, 0)) }, m, ?_, sh.new rfl, Hp.le_refl m, ⟨rfl, rfl, rfl⟩⟩
  obtain ⟨i, hi, hib, hisz⟩ := run_bytesOf (P := P) (t := e) w (h := hE)
  have hwl : IntKind.i64.wrap (L : Int) = L := wrap_i64 (by omega) (by omega)
  have hwc : IntKind.i64.wrap (C : Int) = C := wrap_i64 (by omega) (by omega)
  have hcells : (Array.map (fun x => #[z][x % 1]!) (Array.range C)) = (List.replicate C z).toArray := by
    apply Array.ext
    · simp
    · intro q h1 h2
      simp [Nat.mod_one]
  simp only [execOp, evS_sound se hx, evS_sound se hy, Instr.makeSlice, Sem.run_bind, run_under _ hS.get, Result.andThen_ok, asInt, asIntOf, Sem.run_pure, hi, hib, hwl, hwc]
  have ht : (decide ((C : Int) < 0) || decide ((bytes : Int) * (C : Int) > 2 ^ 48)) = false := by
    have : ((bytes * C : Nat) : Int) ≤ 281474976710656 := by omega
    simp only [Bool.or_eq_false_iff, decide_eq_false_iff_not]
    have h4 : (bytes : Int) * (C : Int) = ((bytes * C : Nat) : Int) := by simp
    rw [h4]
    omega
  rw [if_neg (by simp only [ht, Bool.false_or, Bool.or_eq_true, decide_eq_true_eq]; omega)]
  simp only [Sem.run_bind, run_askRoom, Result.andThen_ok, run_xsizeOf (h := hE), Nat.mul_one, Int.toNat_natCast]
  by_cases h0 : C = 0
  · subst h0
    simp [newRow, Array.range]
  · simp only [h0, if_false, Sem.run_bind, run_zeroValue (h := hE), Sem.run_pure, Result.andThen_ok, cells_one hz.one]
    simp only [List.size_toArray, List.length_cons, List.length_nil, Nat.zero_add, hcells]
    simp [newRow]
end
end Go.SL
