/- Kinds of the program's data, and small lemmas. -/
import Derived.Test.YtgcokdcdpdndjaaDoorProg
import Derived.Test.YtgcokdcdpdndjaaDoorWWords
import Derived.Lib.Hide
import Derived.WalkSpells
import Derived.WalkLawsBesides
import Derived.Outline
namespace Go.Proofs.YtgcokdcdpdndjaaDoor
open Go.RowKit Go.Proofs.YtgcokdcdpdndjaaDoorW.PrintWords
set_option linter.unusedVariables false
set_option linter.unusedSimpArgs false

structure Ty where
  kind : Int
  n : Int
deriving DecidableEq, Inhabited
def kTy : Kd Ty := Kd.iso (Kd.pair (Kd.int .i64) (Kd.int .i64)) (fun x => (x.kind, x.n))
@[reducible] def Ty.v (t : Ty) : Value := .agg #[.int .i64 t.kind, .int .i64 t.n]
theorem kTy_open {w : World} {x : Ty} {cs : List Value} (h : kTy.K w x cs) : cs = [.int .i64 x.kind, .int .i64 x.n] := by
  obtain ⟨_, _, rfl, rfl, rfl⟩ := h
  exact rfl

theorem C_at {α : Type} {d : Kd α} {w : World} {A : Option Addr} {n : Nat} {xs : List α} (h : d.C w A n xs) (k : Nat) (hk : k < n) :
    ∃ ad x c, A = some ad ∧ xs[k]? = some x ∧ d.K w x c ∧ ∀ j u, c[j]? = some u → w.cell? (ad.add (k * d.sz + j)) = some u := by
  have hl : xs.length = n := h.1
  have hk' : k < xs.length := by omega
  obtain ⟨ad, c, e, _, hK, hc0⟩ := Kd.C_get h (xs[k]'hk') (k : Int) (by omega) (by omega)
  have he : xs.getD (k : Int).toNat (xs[k]'hk') = xs[k]'hk' := by simp [List.getD_eq_getElem?_getD, List.getElem?_eq_getElem hk']
  rw [he] at hK
  exact ⟨ad, _, c, e, List.getElem?_eq_getElem hk', hK, hc0⟩
theorem at_Ty {w : World} {A : Option Addr} {n : Nat} {xs : List Ty} (h : kTy.C w A n xs) (k : Nat) (hk : k < n) :
    ∃ ad x, A = some ad ∧ xs[k]? = some x ∧ w.cell? (ad.add (k * 2)) = some (.int .i64 x.kind) ∧ w.cell? ⟨(ad.add (k * 2)).block, (ad.add (k * 2)).off + 1, none⟩ = some (.int .i64 x.n) := by
  obtain ⟨ad, x, c, e, hx, hK, hc0⟩ := C_at h k hk
  have hc : ∀ j u, c[j]? = some u → w.cell? (ad.add (k * 2 + j)) = some u := hc0
  obtain rfl := kTy_open hK
  exact ⟨ad, x, e, hx, hc 0 _ rfl, by rw [← add_field _ _ 1 (by omega)]; exact hc 1 _ rfl⟩
theorem kTy_mk {w : World} {x : Ty} : kTy.K w x [.int .i64 x.kind, .int .i64 x.n] := ⟨_, _, rfl, rfl, rfl⟩
theorem C_nil {α : Type} (d : Kd α) (w : World) : d.C w none 0 [] := ⟨rfl, by omega, fun h => absurd h (by omega)⟩
theorem hpush (w : World) (o : Obj) : (w.alloc o).heap = w.heap.push o := rfl
/-- a row that lies in one block, from its begin on -/
theorem C_block {α : Type} (d : Kd α) (W : World) (g : Nat) (cs : Array Value) (T : TypeId) (fr : Nat × Nat) (xs : List α) (n : Nat) (hh : W.heap[g]? = some (.cells cs T fr)) (hn : xs.length = n) (hl : n ≤ 9223372036854775807)
    (hin : ∀ (j : Nat) (x : α), xs[j]? = some x → ∃ c, c.length = d.sz ∧ d.K W x c ∧ ∀ (i : Nat) (u : Value), c[i]? = some u → cs[j * d.sz + i]? = some u) : d.C W (some ⟨g, 0, none⟩) n xs :=
  ⟨hn, hl, fun _ => ⟨_, rfl, fun j p hp => by
    obtain ⟨c, h1, h2, h3⟩ := hin j p hp
    refine ⟨c, h1, h2, fun i u hi => ?_⟩
    rw [add_plain]
    simp [World.cell?, hh, h3 i u hi]⟩⟩
/-- a row of one element -/
theorem C_one {α : Type} (d : Kd α) (W : World) (g : Nat) (cs : Array Value) (T : TypeId) (fr : Nat × Nat) (x : α) (hh : W.heap[g]? = some (.cells cs T fr)) (hK : d.K W x cs.toList) : d.C W (some ⟨g, 0, none⟩) 1 [x] :=
  C_block d W g cs T fr [x] 1 hh rfl (by omega) (fun j y hy => by
    rcases j with _ | j
    · simp at hy; subst hy; exact ⟨cs.toList, d.K_len hK, hK, fun i u hi => by simpa using hi⟩
    · simp at hy)
theorem ret_int {k : IntKind} {a b : Int} (h : a = b) : Ending.returned (.int k a) = .returned (.int k b) := by rw [h]
theorem ret_bool {a b : Bool} (h : a = b) : Ending.returned (.bool a) = .returned (.bool b) := by rw [h]
theorem blt {w W W' : World} (h : Below w.heap.size w W) (k : Below W.heap.size W W') : Below w.heap.size w W' := h.trans (k.mono h.size)
theorem bcell {W w1 : World} (hb : Below W.heap.size W w1) : (∀ b o, b < W.heap.size → w1.cell? ⟨b, o, none⟩ = W.cell? ⟨b, o, none⟩) ∧ (∀ b o, b < W.heap.size → w1.frozen? ⟨b, o, none⟩ = W.frozen? ⟨b, o, none⟩) ∧ W.heap.size ≤ w1.heap.size :=
  ⟨fun b o h => hb.cell (p := ⟨b, o, none⟩) h, fun b o h => hb.frozen (p := ⟨b, o, none⟩) h, hb.size⟩
theorem C_len {α : Type} {d : Kd α} {w : World} {A : Option Addr} {n : Nat} {xs : List α} (h : d.C w A n xs) : n ≤ 9223372036854775807 := h.2.1

/-- first index at which p holds -/
def idxF {α : Type} (p : α → Bool) : List α → Int
  | [] => -1
  | x :: xs => if p x then 0 else (let r := idxF p xs; if r < 0 then -1 else r + 1)
theorem idxF_ge {α : Type} (p : α → Bool) (l : List α) : -1 ≤ idxF p l := by
  induction l with
  | nil => simp [idxF]
  | cons x xs ih => simp only [idxF]; split; · omega
                    · split <;> omega
/-- IndexFunc's state at k: none of the first k -/
def IdxAt {α : Type} (p : α → Bool) (xs : List α) (k : Nat) : Prop := idxF p xs = if idxF p (xs.drop k) < 0 then -1 else idxF p (xs.drop k) + k
theorem IdxAt.zero {α : Type} (p : α → Bool) (xs : List α) : IdxAt p xs 0 := by
  unfold IdxAt; simp; intro h; have := idxF_ge p xs; omega
theorem IdxAt.hit {α : Type} {p : α → Bool} {xs : List α} {k : Nat} (h : IdxAt p xs k) {x : α} (hx : xs[k]? = some x) (hp : p x = true) : idxF p xs = k := by
  obtain ⟨hk, rfl⟩ := List.getElem?_eq_some_iff.1 hx
  unfold IdxAt at h; rw [h, List.drop_eq_getElem_cons hk]
  simp [idxF, hp]
theorem IdxAt.miss {α : Type} {p : α → Bool} {xs : List α} {k : Nat} (h : IdxAt p xs k) {x : α} (hx : xs[k]? = some x) (hp : p x = false) : IdxAt p xs (k + 1) := by
  obtain ⟨hk, rfl⟩ := List.getElem?_eq_some_iff.1 hx
  unfold IdxAt at h ⊢; rw [h, List.drop_eq_getElem_cons hk]
  have := idxF_ge p (xs.drop (k + 1))
  simp only [idxF, hp]
  by_cases h : idxF p (xs.drop (k + 1)) < 0
  · simp [h]
  · simp [h]; split <;> omega
theorem IdxAt.none {α : Type} {p : α → Bool} {xs : List α} {k : Nat} (h : IdxAt p xs k) (hk : xs.length ≤ k) : idxF p xs = -1 := by
  unfold IdxAt at h; rw [h, List.drop_eq_nil_of_le hk]; simp [idxF]
theorem idxF_any {α : Type} (p : α → Bool) (xs : List α) : decide (idxF p xs ≥ 0) = xs.any p := by
  induction xs with
  | nil => simp [idxF]
  | cons x xs ih =>
    simp only [idxF, List.any_cons, ← ih]
    by_cases h : p x = true
    · simp [h]
    · simp [h]; have := idxF_ge p xs; by_cases h2 : idxF p xs < 0 <;> simp [h2] <;> omega
end Go.Proofs.YtgcokdcdpdndjaaDoor
