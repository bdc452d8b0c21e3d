/- The program's structs as kinds. -/
import Derived.Test.YtgcokdcdpdndjaaDoorBase
namespace Go.Proofs.YtgcokdcdpdndjaaDoor
open Go.RowKit Go.Proofs.YtgcokdcdpdndjaaDoorW.PrintWords
set_option linter.unusedVariables false
set_option linter.unusedSimpArgs false
def kTys : Kd (List Ty) := Kd.slice 37 kTy
structure Ins where
  op : Int
  a : Int
  b : Int
deriving DecidableEq, Inhabited
def kIns : Kd Ins := Kd.iso (Kd.pair (Kd.int .i64) (Kd.pair (Kd.int .i64) (Kd.int .i64))) (fun x => (x.op, x.a, x.b))
@[reducible] def Ins.v (x : Ins) : Value := .agg #[.int .i64 x.op, .int .i64 x.a, .int .i64 x.b]
theorem kIns_open {w : World} {x : Ins} {cs : List Value} (h : kIns.K w x cs) : cs = [.int .i64 x.op, .int .i64 x.a, .int .i64 x.b] := by
  obtain ⟨_, _, rfl, rfl, ⟨_, _, rfl, rfl, rfl⟩⟩ := h
  rfl
theorem kIns_mk {w : World} {x : Ins} : kIns.K w x [.int .i64 x.op, .int .i64 x.a, .int .i64 x.b] := ⟨_, _, rfl, rfl, ⟨_, _, rfl, rfl, rfl⟩⟩
theorem at_Ins {w : World} {A : Option Addr} {n : Nat} {xs : List Ins} (hC : kIns.C w A n xs) (k : Nat) (hk : k < n) :
    ∃ ad x, A = some ad ∧ xs[k]? = some x ∧ w.cell? (ad.add (k * 3)) = some (.int .i64 x.op) ∧ w.cell? ⟨(ad.add (k * 3)).block, (ad.add (k * 3)).off + 1, none⟩ = some (.int .i64 x.a) ∧ w.cell? ⟨(ad.add (k * 3)).block, (ad.add (k * 3)).off + 2, none⟩ = some (.int .i64 x.b) := by
  obtain ⟨ad, x, c, e, hx, hK, hc0⟩ := C_at hC k hk
  have hc : ∀ j u, c[j]? = some u → w.cell? (ad.add (k * 3 + j)) = some u := hc0
  obtain rfl := kIns_open hK
  exact ⟨ad, x, e, hx, hc 0 _ rfl, by rw [← add_field _ _ 1 (by omega)]; exact hc 1 _ rfl, by rw [← add_field _ _ 2 (by omega)]; exact hc 2 _ rfl⟩
structure Fn where
  args : List (Ty)
  ret : Ty
  locals : List (Ty)
  code : List (Ins)
deriving DecidableEq, Inhabited
def kFn : Kd Fn := Kd.iso (Kd.pair (Kd.slice 37 kTy) (Kd.pair kTy (Kd.pair (Kd.slice 37 kTy) (Kd.slice 56 kIns)))) (fun x => (x.args, x.ret, x.locals, x.code))
structure FnH where
  A0 : Option Addr
  c0 : Nat
  A1 : Option Addr
  c1 : Nat
  A2 : Option Addr
  c2 : Nat
/-- the rows of a value -/
structure FnAt (w : World) (x : Fn) (h : FnH) : Prop where
  r0 : Kd.C kTy w h.A0 x.args.length x.args
  l0 : x.args.length ≤ h.c0
  r1 : Kd.C kTy w h.A1 x.locals.length x.locals
  l1 : x.locals.length ≤ h.c1
  r2 : Kd.C kIns w h.A2 x.code.length x.code
  l2 : x.code.length ≤ h.c2
@[reducible] def Fn.v (x : Fn) (h : FnH) : Value := .agg #[.slice h.A0 x.args.length h.c0, .int .i64 x.ret.kind, .int .i64 x.ret.n, .slice h.A1 x.locals.length h.c1, .slice h.A2 x.code.length h.c2]
theorem FnAt.below {w W : World} {x : Fn} {h : FnH} (H : FnAt w x h) (hb : Below w.heap.size w W) : FnAt W x h := ⟨Kd.C_below H.r0 hb, H.l0, Kd.C_below H.r1 hb, H.l1, Kd.C_below H.r2 hb, H.l2⟩
theorem kFn_open {w : World} {x : Fn} {cs : List Value} (h : kFn.K w x cs) : ∃ h : FnH, FnAt w x h ∧ cs = [.slice h.A0 x.args.length h.c0, .int .i64 x.ret.kind, .int .i64 x.ret.n, .slice h.A1 x.locals.length h.c1, .slice h.A2 x.code.length h.c2] := by
  obtain ⟨_, _, rfl, ⟨A0, c0, rfl, l0, r0⟩, ⟨_, _, rfl, ⟨_, _, rfl, rfl, rfl⟩, ⟨_, _, rfl, ⟨A1, c1, rfl, l1, r1⟩, ⟨A2, c2, rfl, l2, r2⟩⟩⟩⟩ := h
  exact ⟨⟨A0, c0, A1, c1, A2, c2⟩, ⟨r0, l0, r1, l1, r2, l2⟩, rfl⟩
theorem kFn_mk {w : World} {x : Fn} {h : FnH} (H : FnAt w x h) : kFn.K w x [.slice h.A0 x.args.length h.c0, .int .i64 x.ret.kind, .int .i64 x.ret.n, .slice h.A1 x.locals.length h.c1, .slice h.A2 x.code.length h.c2] := ⟨_, _, rfl, ⟨h.A0, h.c0, rfl, H.l0, H.r0⟩, ⟨_, _, rfl, ⟨_, _, rfl, rfl, rfl⟩, ⟨_, _, rfl, ⟨h.A1, h.c1, rfl, H.l1, H.r1⟩, ⟨h.A2, h.c2, rfl, H.l2, H.r2⟩⟩⟩⟩
theorem at_Fn {w : World} {A : Option Addr} {n : Nat} {xs : List Fn} (hC : kFn.C w A n xs) (k : Nat) (hk : k < n) :
    ∃ ad x h, A = some ad ∧ xs[k]? = some x ∧ FnAt w x h ∧ w.cell? (ad.add (k * 5)) = some (.slice h.A0 x.args.length h.c0) ∧ w.cell? ⟨(ad.add (k * 5)).block, (ad.add (k * 5)).off + 1, none⟩ = some (.int .i64 x.ret.kind) ∧ w.cell? ⟨(ad.add (k * 5)).block, (ad.add (k * 5)).off + 2, none⟩ = some (.int .i64 x.ret.n) ∧ w.cell? ⟨(ad.add (k * 5)).block, (ad.add (k * 5)).off + 3, none⟩ = some (.slice h.A1 x.locals.length h.c1) ∧ w.cell? ⟨(ad.add (k * 5)).block, (ad.add (k * 5)).off + 4, none⟩ = some (.slice h.A2 x.code.length h.c2) := by
  obtain ⟨ad, x, c, e, hx, hK, hc0⟩ := C_at hC k hk
  have hc : ∀ j u, c[j]? = some u → w.cell? (ad.add (k * 5 + j)) = some u := hc0
  obtain ⟨h, hA, rfl⟩ := kFn_open hK
  exact ⟨ad, x, h, e, hx, hA, hc 0 _ rfl, by rw [← add_field _ _ 1 (by omega)]; exact hc 1 _ rfl, by rw [← add_field _ _ 2 (by omega)]; exact hc 2 _ rfl, by rw [← add_field _ _ 3 (by omega)]; exact hc 3 _ rfl, by rw [← add_field _ _ 4 (by omega)]; exact hc 4 _ rfl⟩
structure Imp where
  args : List (Ty)
  ret : Ty
deriving DecidableEq, Inhabited
def kImp : Kd Imp := Kd.iso (Kd.pair (Kd.slice 37 kTy) kTy) (fun x => (x.args, x.ret))
structure ImpH where
  A0 : Option Addr
  c0 : Nat
/-- the rows of a value -/
structure ImpAt (w : World) (x : Imp) (h : ImpH) : Prop where
  r0 : Kd.C kTy w h.A0 x.args.length x.args
  l0 : x.args.length ≤ h.c0
@[reducible] def Imp.v (x : Imp) (h : ImpH) : Value := .agg #[.slice h.A0 x.args.length h.c0, .int .i64 x.ret.kind, .int .i64 x.ret.n]
theorem ImpAt.below {w W : World} {x : Imp} {h : ImpH} (H : ImpAt w x h) (hb : Below w.heap.size w W) : ImpAt W x h := ⟨Kd.C_below H.r0 hb, H.l0⟩
theorem kImp_open {w : World} {x : Imp} {cs : List Value} (h : kImp.K w x cs) : ∃ h : ImpH, ImpAt w x h ∧ cs = [.slice h.A0 x.args.length h.c0, .int .i64 x.ret.kind, .int .i64 x.ret.n] := by
  obtain ⟨_, _, rfl, ⟨A0, c0, rfl, l0, r0⟩, ⟨_, _, rfl, rfl, rfl⟩⟩ := h
  exact ⟨⟨A0, c0⟩, ⟨r0, l0⟩, rfl⟩
theorem kImp_mk {w : World} {x : Imp} {h : ImpH} (H : ImpAt w x h) : kImp.K w x [.slice h.A0 x.args.length h.c0, .int .i64 x.ret.kind, .int .i64 x.ret.n] := ⟨_, _, rfl, ⟨h.A0, h.c0, rfl, H.l0, H.r0⟩, ⟨_, _, rfl, rfl, rfl⟩⟩
theorem at_Imp {w : World} {A : Option Addr} {n : Nat} {xs : List Imp} (hC : kImp.C w A n xs) (k : Nat) (hk : k < n) :
    ∃ ad x h, A = some ad ∧ xs[k]? = some x ∧ ImpAt w x h ∧ w.cell? (ad.add (k * 3)) = some (.slice h.A0 x.args.length h.c0) ∧ w.cell? ⟨(ad.add (k * 3)).block, (ad.add (k * 3)).off + 1, none⟩ = some (.int .i64 x.ret.kind) ∧ w.cell? ⟨(ad.add (k * 3)).block, (ad.add (k * 3)).off + 2, none⟩ = some (.int .i64 x.ret.n) := by
  obtain ⟨ad, x, c, e, hx, hK, hc0⟩ := C_at hC k hk
  have hc : ∀ j u, c[j]? = some u → w.cell? (ad.add (k * 3 + j)) = some u := hc0
  obtain ⟨h, hA, rfl⟩ := kImp_open hK
  exact ⟨ad, x, h, e, hx, hA, hc 0 _ rfl, by rw [← add_field _ _ 1 (by omega)]; exact hc 1 _ rfl, by rw [← add_field _ _ 2 (by omega)]; exact hc 2 _ rfl⟩
structure Mod where
  recs : List (List Ty)
  funcs : List (Fn)
  imports : List (Imp)
  ints : List (Int)
  texts : List (ByteArray)
deriving DecidableEq, Inhabited
def kMod : Kd Mod := Kd.iso (Kd.pair (Kd.slice 29 kTys) (Kd.pair (Kd.slice 53 kFn) (Kd.pair (Kd.slice 70 kImp) (Kd.pair (Kd.slice 57 (Kd.int .u64)) (Kd.slice 9 Kd.string))))) (fun x => (x.recs, x.funcs, x.imports, x.ints, x.texts))
structure ModH where
  A0 : Option Addr
  c0 : Nat
  A1 : Option Addr
  c1 : Nat
  A2 : Option Addr
  c2 : Nat
  A3 : Option Addr
  c3 : Nat
  A4 : Option Addr
  c4 : Nat
/-- the rows of a value -/
structure ModAt (w : World) (x : Mod) (h : ModH) : Prop where
  r0 : Kd.C kTys w h.A0 x.recs.length x.recs
  l0 : x.recs.length ≤ h.c0
  r1 : Kd.C kFn w h.A1 x.funcs.length x.funcs
  l1 : x.funcs.length ≤ h.c1
  r2 : Kd.C kImp w h.A2 x.imports.length x.imports
  l2 : x.imports.length ≤ h.c2
  r3 : Kd.C (Kd.int .u64) w h.A3 x.ints.length x.ints
  l3 : x.ints.length ≤ h.c3
  r4 : Kd.C Kd.string w h.A4 x.texts.length x.texts
  l4 : x.texts.length ≤ h.c4
@[reducible] def Mod.v (x : Mod) (h : ModH) : Value := .agg #[.slice h.A0 x.recs.length h.c0, .slice h.A1 x.funcs.length h.c1, .slice h.A2 x.imports.length h.c2, .slice h.A3 x.ints.length h.c3, .slice h.A4 x.texts.length h.c4]
theorem ModAt.below {w W : World} {x : Mod} {h : ModH} (H : ModAt w x h) (hb : Below w.heap.size w W) : ModAt W x h := ⟨Kd.C_below H.r0 hb, H.l0, Kd.C_below H.r1 hb, H.l1, Kd.C_below H.r2 hb, H.l2, Kd.C_below H.r3 hb, H.l3, Kd.C_below H.r4 hb, H.l4⟩
theorem kMod_open {w : World} {x : Mod} {cs : List Value} (h : kMod.K w x cs) : ∃ h : ModH, ModAt w x h ∧ cs = [.slice h.A0 x.recs.length h.c0, .slice h.A1 x.funcs.length h.c1, .slice h.A2 x.imports.length h.c2, .slice h.A3 x.ints.length h.c3, .slice h.A4 x.texts.length h.c4] := by
  obtain ⟨_, _, rfl, ⟨A0, c0, rfl, l0, r0⟩, ⟨_, _, rfl, ⟨A1, c1, rfl, l1, r1⟩, ⟨_, _, rfl, ⟨A2, c2, rfl, l2, r2⟩, ⟨_, _, rfl, ⟨A3, c3, rfl, l3, r3⟩, ⟨A4, c4, rfl, l4, r4⟩⟩⟩⟩⟩ := h
  exact ⟨⟨A0, c0, A1, c1, A2, c2, A3, c3, A4, c4⟩, ⟨r0, l0, r1, l1, r2, l2, r3, l3, r4, l4⟩, rfl⟩
theorem kMod_mk {w : World} {x : Mod} {h : ModH} (H : ModAt w x h) : kMod.K w x [.slice h.A0 x.recs.length h.c0, .slice h.A1 x.funcs.length h.c1, .slice h.A2 x.imports.length h.c2, .slice h.A3 x.ints.length h.c3, .slice h.A4 x.texts.length h.c4] := ⟨_, _, rfl, ⟨h.A0, h.c0, rfl, H.l0, H.r0⟩, ⟨_, _, rfl, ⟨h.A1, h.c1, rfl, H.l1, H.r1⟩, ⟨_, _, rfl, ⟨h.A2, h.c2, rfl, H.l2, H.r2⟩, ⟨_, _, rfl, ⟨h.A3, h.c3, rfl, H.l3, H.r3⟩, ⟨h.A4, h.c4, rfl, H.l4, H.r4⟩⟩⟩⟩⟩
theorem at_Mod {w : World} {A : Option Addr} {n : Nat} {xs : List Mod} (hC : kMod.C w A n xs) (k : Nat) (hk : k < n) :
    ∃ ad x h, A = some ad ∧ xs[k]? = some x ∧ ModAt w x h ∧ w.cell? (ad.add (k * 5)) = some (.slice h.A0 x.recs.length h.c0) ∧ w.cell? ⟨(ad.add (k * 5)).block, (ad.add (k * 5)).off + 1, none⟩ = some (.slice h.A1 x.funcs.length h.c1) ∧ w.cell? ⟨(ad.add (k * 5)).block, (ad.add (k * 5)).off + 2, none⟩ = some (.slice h.A2 x.imports.length h.c2) ∧ w.cell? ⟨(ad.add (k * 5)).block, (ad.add (k * 5)).off + 3, none⟩ = some (.slice h.A3 x.ints.length h.c3) ∧ w.cell? ⟨(ad.add (k * 5)).block, (ad.add (k * 5)).off + 4, none⟩ = some (.slice h.A4 x.texts.length h.c4) := by
  obtain ⟨ad, x, c, e, hx, hK, hc0⟩ := C_at hC k hk
  have hc : ∀ j u, c[j]? = some u → w.cell? (ad.add (k * 5 + j)) = some u := hc0
  obtain ⟨h, hA, rfl⟩ := kMod_open hK
  exact ⟨ad, x, h, e, hx, hA, hc 0 _ rfl, by rw [← add_field _ _ 1 (by omega)]; exact hc 1 _ rfl, by rw [← add_field _ _ 2 (by omega)]; exact hc 2 _ rfl, by rw [← add_field _ _ 3 (by omega)]; exact hc 3 _ rfl, by rw [← add_field _ _ 4 (by omega)]; exact hc 4 _ rfl⟩
structure Shp where
  seen : Bool
  stack : List (Ty)
deriving DecidableEq, Inhabited
def kShp : Kd Shp := Kd.iso (Kd.pair Kd.bool (Kd.slice 37 kTy)) (fun x => (x.seen, x.stack))
structure ShpH where
  A0 : Option Addr
  c0 : Nat
/-- the rows of a value -/
structure ShpAt (w : World) (x : Shp) (h : ShpH) : Prop where
  r0 : Kd.C kTy w h.A0 x.stack.length x.stack
  l0 : x.stack.length ≤ h.c0
@[reducible] def Shp.v (x : Shp) (h : ShpH) : Value := .agg #[.bool x.seen, .slice h.A0 x.stack.length h.c0]
theorem ShpAt.below {w W : World} {x : Shp} {h : ShpH} (H : ShpAt w x h) (hb : Below w.heap.size w W) : ShpAt W x h := ⟨Kd.C_below H.r0 hb, H.l0⟩
theorem kShp_open {w : World} {x : Shp} {cs : List Value} (h : kShp.K w x cs) : ∃ h : ShpH, ShpAt w x h ∧ cs = [.bool x.seen, .slice h.A0 x.stack.length h.c0] := by
  obtain ⟨_, _, rfl, rfl, ⟨A0, c0, rfl, l0, r0⟩⟩ := h
  exact ⟨⟨A0, c0⟩, ⟨r0, l0⟩, rfl⟩
theorem kShp_mk {w : World} {x : Shp} {h : ShpH} (H : ShpAt w x h) : kShp.K w x [.bool x.seen, .slice h.A0 x.stack.length h.c0] := ⟨_, _, rfl, rfl, ⟨h.A0, h.c0, rfl, H.l0, H.r0⟩⟩
theorem at_Shp {w : World} {A : Option Addr} {n : Nat} {xs : List Shp} (hC : kShp.C w A n xs) (k : Nat) (hk : k < n) :
    ∃ ad x h, A = some ad ∧ xs[k]? = some x ∧ ShpAt w x h ∧ w.cell? (ad.add (k * 2)) = some (.bool x.seen) ∧ w.cell? ⟨(ad.add (k * 2)).block, (ad.add (k * 2)).off + 1, none⟩ = some (.slice h.A0 x.stack.length h.c0) := by
  obtain ⟨ad, x, c, e, hx, hK, hc0⟩ := C_at hC k hk
  have hc : ∀ j u, c[j]? = some u → w.cell? (ad.add (k * 2 + j)) = some u := hc0
  obtain ⟨h, hA, rfl⟩ := kShp_open hK
  exact ⟨ad, x, h, e, hx, hA, hc 0 _ rfl, by rw [← add_field _ _ 1 (by omega)]; exact hc 1 _ rfl⟩
structure Rul where
  inn : List (Ty)
  out : List (Ty)
deriving DecidableEq, Inhabited
def kRul : Kd Rul := Kd.iso (Kd.pair (Kd.slice 37 kTy) (Kd.slice 37 kTy)) (fun x => (x.inn, x.out))
structure RulH where
  A0 : Option Addr
  c0 : Nat
  A1 : Option Addr
  c1 : Nat
/-- the rows of a value -/
structure RulAt (w : World) (x : Rul) (h : RulH) : Prop where
  r0 : Kd.C kTy w h.A0 x.inn.length x.inn
  l0 : x.inn.length ≤ h.c0
  r1 : Kd.C kTy w h.A1 x.out.length x.out
  l1 : x.out.length ≤ h.c1
@[reducible] def Rul.v (x : Rul) (h : RulH) : Value := .agg #[.slice h.A0 x.inn.length h.c0, .slice h.A1 x.out.length h.c1]
theorem RulAt.below {w W : World} {x : Rul} {h : RulH} (H : RulAt w x h) (hb : Below w.heap.size w W) : RulAt W x h := ⟨Kd.C_below H.r0 hb, H.l0, Kd.C_below H.r1 hb, H.l1⟩
theorem kRul_open {w : World} {x : Rul} {cs : List Value} (h : kRul.K w x cs) : ∃ h : RulH, RulAt w x h ∧ cs = [.slice h.A0 x.inn.length h.c0, .slice h.A1 x.out.length h.c1] := by
  obtain ⟨_, _, rfl, ⟨A0, c0, rfl, l0, r0⟩, ⟨A1, c1, rfl, l1, r1⟩⟩ := h
  exact ⟨⟨A0, c0, A1, c1⟩, ⟨r0, l0, r1, l1⟩, rfl⟩
theorem kRul_mk {w : World} {x : Rul} {h : RulH} (H : RulAt w x h) : kRul.K w x [.slice h.A0 x.inn.length h.c0, .slice h.A1 x.out.length h.c1] := ⟨_, _, rfl, ⟨h.A0, h.c0, rfl, H.l0, H.r0⟩, ⟨h.A1, h.c1, rfl, H.l1, H.r1⟩⟩
theorem at_Rul {w : World} {A : Option Addr} {n : Nat} {xs : List Rul} (hC : kRul.C w A n xs) (k : Nat) (hk : k < n) :
    ∃ ad x h, A = some ad ∧ xs[k]? = some x ∧ RulAt w x h ∧ w.cell? (ad.add (k * 2)) = some (.slice h.A0 x.inn.length h.c0) ∧ w.cell? ⟨(ad.add (k * 2)).block, (ad.add (k * 2)).off + 1, none⟩ = some (.slice h.A1 x.out.length h.c1) := by
  obtain ⟨ad, x, c, e, hx, hK, hc0⟩ := C_at hC k hk
  have hc : ∀ j u, c[j]? = some u → w.cell? (ad.add (k * 2 + j)) = some u := hc0
  obtain ⟨h, hA, rfl⟩ := kRul_open hK
  exact ⟨ad, x, h, e, hx, hA, hc 0 _ rfl, by rw [← add_field _ _ 1 (by omega)]; exact hc 1 _ rfl⟩
def kShps : Kd (List Shp) := Kd.slice 45 kShp
theorem at_int {w : World} {A : Option Addr} {n : Nat} {xs : List Int} (hC : Kd.C (Kd.int .i64) w A n xs) (k : Nat) (hk : k < n) :
    ∃ ad x, A = some ad ∧ xs[k]? = some x ∧ w.cell? (ad.add k) = some (Value.int .i64 x) := by
  obtain ⟨ad, x, c, e, hx, hK, hc0⟩ := C_at hC k hk
  have hc : ∀ j u, c[j]? = some u → w.cell? (ad.add (k * 1 + j)) = some u := hc0
  obtain rfl : c = [_] := hK
  exact ⟨ad, x, e, hx, by have hq := hc 0 _ rfl; rwa [Nat.mul_one, Nat.add_zero] at hq⟩
theorem at_u64 {w : World} {A : Option Addr} {n : Nat} {xs : List Int} (hC : Kd.C (Kd.int .u64) w A n xs) (k : Nat) (hk : k < n) :
    ∃ ad x, A = some ad ∧ xs[k]? = some x ∧ w.cell? (ad.add k) = some (Value.int .u64 x) := by
  obtain ⟨ad, x, c, e, hx, hK, hc0⟩ := C_at hC k hk
  have hc : ∀ j u, c[j]? = some u → w.cell? (ad.add (k * 1 + j)) = some u := hc0
  obtain rfl : c = [_] := hK
  exact ⟨ad, x, e, hx, by have hq := hc 0 _ rfl; rwa [Nat.mul_one, Nat.add_zero] at hq⟩
theorem at_u8 {w : World} {A : Option Addr} {n : Nat} {xs : List Int} (hC : Kd.C (Kd.int .u8) w A n xs) (k : Nat) (hk : k < n) :
    ∃ ad x, A = some ad ∧ xs[k]? = some x ∧ w.cell? (ad.add k) = some (Value.int .u8 x) := by
  obtain ⟨ad, x, c, e, hx, hK, hc0⟩ := C_at hC k hk
  have hc : ∀ j u, c[j]? = some u → w.cell? (ad.add (k * 1 + j)) = some u := hc0
  obtain rfl : c = [_] := hK
  exact ⟨ad, x, e, hx, by have hq := hc 0 _ rfl; rwa [Nat.mul_one, Nat.add_zero] at hq⟩
theorem at_str {w : World} {A : Option Addr} {n : Nat} {xs : List ByteArray} (hC : Kd.C Kd.string w A n xs) (k : Nat) (hk : k < n) :
    ∃ ad x, A = some ad ∧ xs[k]? = some x ∧ w.cell? (ad.add k) = some (Value.string x) := by
  obtain ⟨ad, x, c, e, hx, hK, hc0⟩ := C_at hC k hk
  have hc : ∀ j u, c[j]? = some u → w.cell? (ad.add (k * 1 + j)) = some u := hc0
  obtain rfl : c = [_] := hK
  exact ⟨ad, x, e, hx, by have hq := hc 0 _ rfl; rwa [Nat.mul_one, Nat.add_zero] at hq⟩
theorem at_Tys {w : World} {A : Option Addr} {n : Nat} {xs : List (List Ty)} (hC : Kd.C kTys w A n xs) (k : Nat) (hk : k < n) :
    ∃ ad x A0 c0, A = some ad ∧ xs[k]? = some x ∧ kTy.C w A0 x.length x ∧ x.length ≤ c0 ∧ w.cell? (ad.add k) = some (.slice A0 x.length c0) := by
  obtain ⟨ad, x, c, e, hx, hK, hc0⟩ := C_at hC k hk
  have hc : ∀ j u, c[j]? = some u → w.cell? (ad.add (k * 1 + j)) = some u := hc0
  obtain ⟨A0, c0, rfl, l0, g0⟩ := hK
  exact ⟨ad, x, A0, c0, e, hx, g0, l0, by have hq := hc 0 _ rfl; rwa [Nat.mul_one, Nat.add_zero] at hq⟩
end Go.Proofs.YtgcokdcdpdndjaaDoor
