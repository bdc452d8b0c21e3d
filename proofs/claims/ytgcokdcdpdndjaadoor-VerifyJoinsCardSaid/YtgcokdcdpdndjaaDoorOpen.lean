/- Arguments that are read: by kinds. -/
import Derived.Test.YtgcokdcdpdndjaaDoorKinds
import Derived.Deep.Slices
import Derived.SizedLaws
namespace Go.Proofs.YtgcokdcdpdndjaaDoor
open Go.RowKit Go.Proofs.YtgcokdcdpdndjaaDoorW.PrintWords Go.ChangeShapes Go.WideShapes Go.Deep
set_option linter.unusedVariables false
set_option linter.unusedSimpArgs false

/-- whatever reads at t and is of bounded weight is of kind d -/
structure Opn {α : Type} (P : Program) (d : Kd α) (t : TypeId) (Q : α → Prop) : Prop where
  out : ∀ {H : Type} (enc : TypeId × Value → H) (w : World) (spare : Nat → Bool) (held : Bool) (fuel : Nat) (cs : List Value) (x : DataW H × List MemPlace),
    DataW.trod enc P w 0 spare held fuel t cs = some x → (∀ n ∈ x.1.weights P t, n ≤ reachBytes) → ∃ a, d.K w a cs ∧ Q a
theorem opn_int {P : Program} {t : TypeId} {k : IntKind} (ht : P.underlying t = some (.int k)) : Opn P (Kd.int k) t (fun n => k.min ≤ n ∧ n ≤ k.max) := by
  refine ⟨fun {H} enc w spare held fuel cs x h _ => ?_⟩
  obtain ⟨n, rfl, _, hw⟩ := DataW.trod_int ht h
  refine ⟨n, rfl, ?_⟩
  simpa [Lit.wf] using hw
theorem opn_bool {P : Program} {t : TypeId} (ht : P.underlying t = some .bool) : Opn P Kd.bool t (fun _ => True) := by
  refine ⟨fun {H} enc w spare held fuel cs x h _ => ?_⟩
  obtain ⟨n, rfl, _⟩ := DataW.trod_bool ht h
  exact ⟨n, rfl, trivial⟩
theorem opn_string {P : Program} {t : TypeId} (ht : P.underlying t = some .string) : Opn P Kd.string t (fun s => s.size ≤ reachBytes) := by
  refine ⟨fun {H} enc w spare held fuel cs x h hw => ?_⟩
  obtain ⟨s, rfl, rfl, _⟩ := DataW.trod_string ht h
  refine ⟨s, rfl, ?_⟩
  have := hw s.data.toList.length (by simp [DataW.weights])
  rwa [data_length] at this
theorem weightsAll_mem {H : Type} {P : Program} {e : TypeId} : ∀ {ds : List (DataW H)} {d : DataW H}, d ∈ ds → ∀ n ∈ d.weights P e, n ∈ DataW.weightsAll P e ds
  | d0 :: ds, d, hd, n, hn => by
    simp only [DataW.weightsAll, List.mem_append]
    rcases List.mem_cons.1 hd with rfl | hd
    · exact .inl hn
    · exact .inr (weightsAll_mem hd n hn)
theorem opn_slice {α : Type} {P : Program} {d : Kd α} {t e : TypeId} {Q : α → Prop} (ht : P.underlying t = some (.slice e)) (hs : P.cellsOf e = d.sz) (ho : Opn P d e Q) :
    Opn P (Kd.slice e d) t (fun xs => xs.length * P.bytesOf e ≤ reachBytes ∧ ∀ x ∈ xs, Q x) := by
  refine ⟨fun {H} enc w spare held fuel cs x h hw => ?_⟩
  rcases open_slice ht h with ⟨rfl, rfl⟩ | ⟨a, len, cap, m, n, D, Pl, rfl, hb, hl, hm, hmm, rfl, hx⟩
  · exact ⟨[], ⟨none, 0, rfl, Nat.le_refl _, C_nil _ _⟩, by simp, by simp⟩
  have hle : len ≤ m := by rw [hmm]; split <;> omega
  have hwl : len * P.bytesOf e ≤ reachBytes := by
    have h1 := hw ((((List.range len).map D).length + ((List.range (m - len)).map fun j => D (len + j)).length) * P.bytesOf e) (by simp [DataW.weights, ht])
    simp only [List.length_map, List.length_range] at h1
    exact Nat.le_trans (Nat.mul_le_mul_right _ (by omega)) h1
  have hel : ∀ i, i < len → ∃ y, ∃ cs', w.cells? 0 (a.add (i * P.cellsOf e)) (P.cellsOf e) = some cs' ∧ d.K w y cs' ∧ Q y := by
    intro i hi
    obtain ⟨cs', h1, h2⟩ := hx i (by omega)
    obtain ⟨y, hK, hQ⟩ := ho.out enc w spare held n cs' _ h2 (fun n hn => hw n (by
      simp only [DataW.weights, ht, List.mem_cons, List.mem_append]
      exact .inr (.inl (weightsAll_mem (List.mem_map.2 ⟨i, List.mem_range.2 hi, rfl⟩) n hn))))
    exact ⟨y, cs', h1, hK, hQ⟩
  rcases Nat.eq_zero_or_pos len with h0 | hpos
  · subst h0
    exact ⟨[], ⟨some a, cap, rfl, Nat.zero_le _, rfl, by simp, fun h => absurd h (Nat.lt_irrefl 0)⟩, by simp, by simp⟩
  obtain ⟨y0, _⟩ := hel 0 hpos
  haveI : Inhabited α := ⟨y0⟩
  obtain ⟨f, hf⟩ := choose_lt (α := α) (p := fun i y => ∃ cs', w.cells? 0 (a.add (i * P.cellsOf e)) (P.cellsOf e) = some cs' ∧ d.K w y cs' ∧ Q y) hel
  refine ⟨(List.range len).map f, ⟨some a, cap, by simp, by simpa using hl, ?_⟩, by simpa using hwl, ?_⟩
  · refine ⟨rfl, by simp only [maxLen] at hm; simp; omega, fun _ => ⟨a, rfl, fun j p hj => ?_⟩⟩
    rw [List.getElem?_map] at hj
    obtain ⟨i, hi, rfl⟩ := Option.map_eq_some_iff.1 hj
    obtain ⟨hjl, hji⟩ := List.getElem?_eq_some_iff.1 hi
    simp only [List.length_range] at hjl
    simp only [List.getElem_range] at hji
    subst hji
    obtain ⟨cs', h1, hK, _⟩ := hf j hjl
    obtain ⟨_, hlen, hc⟩ := World.cells?_some h1
    refine ⟨cs', by rw [hlen, hs], hK, fun i u hu => ?_⟩
    have hi2 : i < P.cellsOf e := by rw [← hlen]; exact (List.getElem?_eq_some_iff.1 hu).1
    have := hc i hi2
    rw [Go.Deep.add_add, hs] at this
    rw [this, hu]
  · intro x hx
    obtain ⟨i, hi, rfl⟩ := List.mem_map.1 hx
    obtain ⟨_, _, _, hQ⟩ := hf i (List.mem_range.1 hi)
    exact hQ
/-- the fields from offset o on -/
structure OpnF {α : Type} (P : Program) (d : Kd α) (fs : List Field) (o : Nat) (Q : α → Prop) : Prop where
  out : ∀ {H : Type} (enc : TypeId × Value → H) (w : World) (spare : Nat → Bool) (held : Bool) (fuel : Nat) (cs : List Value) (xs : List (DataW H × List MemPlace)),
    cs.length = o + d.sz → xs.length = fs.length → (∀ (i : Nat) (f : Field), fs[i]? = some f → DataW.trod enc P w 0 spare held fuel f.type ((cs.drop f.offset).take (P.cellsOf f.type)) = xs[i]?) →
    (∀ n ∈ DataW.weightsEach P (fs.map (·.type)) (xs.map (·.1)), n ≤ reachBytes) → ∃ a, d.K w a (cs.drop o) ∧ Q a
theorem opnF_one {α : Type} {P : Program} {d : Kd α} {f : Field} {o : Nat} {Q : α → Prop} (eo : f.offset = o) (hs : P.cellsOf f.type = d.sz) (ho : Opn P d f.type Q) : OpnF P d [f] o Q := by
  subst eo
  refine ⟨fun {H} enc w spare held fuel cs xs hl hx h hw => ?_⟩
  obtain ⟨x, rfl⟩ := List.length_eq_one_iff.1 hx
  have h0 := h 0 f rfl
  rw [List.take_of_length_le (by rw [List.length_drop, hs]; omega)] at h0
  exact ho.out enc w spare held fuel _ _ h0 (fun n hn => hw n (by simp [DataW.weightsEach]; exact hn))
theorem opnF_cons {α β : Type} {P : Program} {a : Kd α} {b : Kd β} {f : Field} {fs : List Field} {o o2 : Nat} {Q : α → Prop} {Q2 : β → Prop} (eo : f.offset = o) (hs : P.cellsOf f.type = a.sz) (ho : Opn P a f.type Q) (e2 : o + a.sz = o2) (h2 : OpnF P b fs o2 Q2) :
    OpnF P (Kd.pair a b) (f :: fs) o (fun x => Q x.1 ∧ Q2 x.2) := by
  subst eo e2
  refine ⟨fun {H} enc w spare held fuel cs xs hl hx h hw => ?_⟩
  rcases xs with _ | ⟨x, xs⟩
  · simp at hx
  have h0 := h 0 f rfl
  obtain ⟨y, hK, hQ⟩ := ho.out enc w spare held fuel _ x h0 (fun n hn => hw n (by simp [DataW.weightsEach]; exact .inl hn))
  have hl' : cs.length = f.offset + (a.sz + b.sz) := hl
  obtain ⟨z, hK2, hQ2⟩ := h2.out enc w spare held fuel cs xs (by omega) (by simpa using hx) (fun i g hg => h (i + 1) g hg) (fun n hn => hw n (by simp [DataW.weightsEach]; exact .inr hn))
  refine ⟨(y, z), ⟨(cs.drop f.offset).take a.sz, cs.drop (f.offset + a.sz), ?_, by rw [← hs]; exact hK, hK2⟩, hQ, hQ2⟩
  rw [← List.drop_drop, List.take_append_drop]
theorem opn_struct {α : Type} {P : Program} {d : Kd α} {t : TypeId} {fs : Array Field} {Q : α → Prop} (ht : P.underlying t = some (.struct fs)) (hs : P.cellsOf t = d.sz) (ho : OpnF P d fs.toList 0 Q) : Opn P d t Q := by
  refine ⟨fun {H} enc w spare held fuel cs x h hw => ?_⟩
  obtain ⟨xs, n, rfl, rfl, hl, hlen, hf⟩ := DataW.trod_struct ht h
  have := ho.out enc w spare held n cs xs (by omega) (by simpa using hlen) (fun i f hi => hf i f (by simpa using hi)) (fun n hn => hw n (by simpa [DataW.weights, ht] using hn))
  simpa using this
theorem opn_iso {α β : Type} {P : Program} {d : Kd α} {t : TypeId} {Q : α → Prop} {f : β → α} (g : α → β) (hg : ∀ a, f (g a) = a) (ho : Opn P d t Q) : Opn P (Kd.iso d f) t (fun b => Q (f b)) := by
  refine ⟨fun {H} enc w spare held fuel cs x h hw => ?_⟩
  obtain ⟨a, hK, hQ⟩ := ho.out enc w spare held fuel cs x h hw
  exact ⟨g a, by show d.K w (f (g a)) cs; rw [hg]; exact hK, by show Q (f (g a)); rw [hg]; exact hQ⟩
theorem Opn.imp {α : Type} {P : Program} {d : Kd α} {t : TypeId} {Q Q' : α → Prop} (h : Opn P d t Q) (hq : ∀ a, Q a → Q' a) : Opn P d t Q' := by
  refine ⟨fun {H} enc w spare held fuel cs x hx hw => ?_⟩
  obtain ⟨a, hK, hQ⟩ := h.out enc w spare held fuel cs x hx hw
  exact ⟨a, hK, hq a hQ⟩

/-! ### the program's kinds -/
def i64ok (n : Int) : Prop := IntKind.i64.min ≤ n ∧ n ≤ IntKind.i64.max
def TyOk (t : Ty) : Prop := i64ok t.kind ∧ i64ok t.n
def TysOk (l : List Ty) : Prop := l.length ≤ reachBytes ∧ ∀ t ∈ l, TyOk t
def InsOk (i : Ins) : Prop := i64ok i.op ∧ i64ok i.a ∧ i64ok i.b
def FnOk (f : Fn) : Prop := TysOk f.args ∧ TyOk f.ret ∧ TysOk f.locals ∧ f.code.length ≤ reachBytes ∧ ∀ i ∈ f.code, InsOk i
def ImpOk (f : Imp) : Prop := TysOk f.args ∧ TyOk f.ret
structure ModBig (m : Mod) : Prop where
  l0 : m.recs.length ≤ reachBytes
  r0 : ∀ x ∈ m.recs, TysOk x
  l1 : m.funcs.length ≤ reachBytes
  r1 : ∀ x ∈ m.funcs, FnOk x
  l2 : m.imports.length ≤ reachBytes
  r2 : ∀ x ∈ m.imports, ImpOk x
  l3 : m.ints.length ≤ reachBytes
  r3 : ∀ x ∈ m.ints, IntKind.u64.min ≤ x ∧ x ≤ IntKind.u64.max
  l4 : m.texts.length ≤ reachBytes
  r4 : ∀ x ∈ m.texts, x.size ≤ reachBytes
theorem len_of {n b r : Nat} (hb : 0 < b) (h : n * b ≤ r) : n ≤ r := Nat.le_trans (Nat.le_mul_of_pos_right _ hb) h
theorem big_imp {α : Type} {l : List α} {b : Nat} {p : Prop} (hb : 0 < b) (h : l.length * b ≤ reachBytes ∧ p) : l.length ≤ reachBytes ∧ p := ⟨len_of hb h.1, h.2⟩
theorem opn_i64 : Opn Tryd.prog (Kd.int .i64) 3 i64ok := opn_int Tryd.underlying3
theorem opn_Ty : Opn Tryd.prog kTy 37 TyOk := by
  refine opn_iso (f := fun x : Ty => (x.kind, x.n)) (g := fun x : Int × Int => (⟨x.1, x.2⟩ : Ty)) (Q := fun x => i64ok x.1 ∧ i64ok x.2) (fun _ => rfl) ?_
  exact opn_struct Tryd.underlying37 (by kernel_rfl) (opnF_cons rfl (by kernel_rfl) opn_i64 rfl (opnF_one rfl (by kernel_rfl) opn_i64))
theorem opn_Tys : Opn Tryd.prog kTys 29 TysOk :=
  (opn_slice Tryd.underlying29 (by kernel_rfl) opn_Ty).imp fun l h => big_imp (by rw [show Tryd.prog.bytesOf 37 = 16 by kernel_rfl]; omega) h
theorem opn_Ins : Opn Tryd.prog kIns 56 InsOk := by
  refine opn_iso (f := fun x : Ins => (x.op, x.a, x.b)) (g := fun x : Int × Int × Int => (⟨x.1, x.2.1, x.2.2⟩ : Ins)) (Q := fun x => i64ok x.1 ∧ i64ok x.2.1 ∧ i64ok x.2.2) (fun _ => rfl) ?_
  exact opn_struct Tryd.underlying56 (by kernel_rfl) (opnF_cons rfl (by kernel_rfl) opn_i64 rfl (opnF_cons rfl (by kernel_rfl) opn_i64 rfl (opnF_one rfl (by kernel_rfl) opn_i64)))
theorem opn_Code : Opn Tryd.prog (Kd.slice 56 kIns) 51 (fun l => l.length ≤ reachBytes ∧ ∀ i ∈ l, InsOk i) :=
  (opn_slice Tryd.underlying51 (by kernel_rfl) opn_Ins).imp fun l h => big_imp (by rw [show Tryd.prog.bytesOf 56 = 24 by kernel_rfl]; omega) h
theorem opn_Fn : Opn Tryd.prog kFn 53 FnOk :=
  (opn_iso (f := fun x : Fn => (x.args, x.ret, x.locals, x.code)) (g := fun x : List Ty × Ty × List Ty × List Ins => (⟨x.1, x.2.1, x.2.2.1, x.2.2.2⟩ : Fn)) (fun _ => rfl)
    (opn_struct Tryd.underlying53 (by kernel_rfl) (opnF_cons rfl (by kernel_rfl) opn_Tys rfl (opnF_cons rfl (by kernel_rfl) opn_Ty rfl (opnF_cons rfl (by kernel_rfl) opn_Tys rfl (opnF_one rfl (by kernel_rfl) opn_Code)))))).imp fun _ h => h
theorem opn_Imp : Opn Tryd.prog kImp 70 ImpOk := by
  refine opn_iso (f := fun x : Imp => (x.args, x.ret)) (g := fun x : List Ty × Ty => (⟨x.1, x.2⟩ : Imp)) (Q := fun x => TysOk x.1 ∧ TyOk x.2) (fun _ => rfl) ?_
  exact opn_struct Tryd.underlying70 (by kernel_rfl) (opnF_cons rfl (by kernel_rfl) opn_Tys rfl (opnF_one rfl (by kernel_rfl) opn_Ty))
theorem opn_Mod : Opn Tryd.prog kMod 28 ModBig := by
  have o0 := (opn_slice Tryd.underlying22 (by kernel_rfl) opn_Tys).imp (Q' := fun l => l.length ≤ reachBytes ∧ ∀ x ∈ l, TysOk x) fun l h => big_imp (by rw [show Tryd.prog.bytesOf 29 = 24 by kernel_rfl]; omega) h
  have o1 := (opn_slice Tryd.underlying23 (by kernel_rfl) opn_Fn).imp (Q' := fun l => l.length ≤ reachBytes ∧ ∀ x ∈ l, FnOk x) fun l h => big_imp (by rw [show Tryd.prog.bytesOf 53 = 88 by kernel_rfl]; omega) h
  have o2 := (opn_slice Tryd.underlying24 (by kernel_rfl) opn_Imp).imp (Q' := fun l => l.length ≤ reachBytes ∧ ∀ x ∈ l, ImpOk x) fun l h => big_imp (by rw [show Tryd.prog.bytesOf 70 = 40 by kernel_rfl]; omega) h
  have o3 := (opn_slice Tryd.underlying25 (by kernel_rfl) (opn_int Tryd.underlying57)).imp (Q' := fun l => l.length ≤ reachBytes ∧ ∀ x ∈ l, IntKind.u64.min ≤ x ∧ x ≤ IntKind.u64.max) fun l h => big_imp (by rw [show Tryd.prog.bytesOf 57 = 8 by kernel_rfl]; omega) h
  have o4 := (opn_slice Tryd.underlying26 (by kernel_rfl) (opn_string Tryd.underlying9)).imp (Q' := fun l => l.length ≤ reachBytes ∧ ∀ x ∈ l, x.size ≤ reachBytes) fun l h => big_imp (by rw [show Tryd.prog.bytesOf 9 = 16 by kernel_rfl]; omega) h
  refine (opn_iso (f := fun x : Mod => (x.recs, x.funcs, x.imports, x.ints, x.texts)) (g := fun x : List (List Ty) × List Fn × List Imp × List Int × List ByteArray => (⟨x.1, x.2.1, x.2.2.1, x.2.2.2.1, x.2.2.2.2⟩ : Mod)) (fun _ => rfl) (opn_struct Tryd.underlying28 (by kernel_rfl) (opnF_cons rfl (by kernel_rfl) o0 rfl (opnF_cons rfl (by kernel_rfl) o1 rfl (opnF_cons rfl (by kernel_rfl) o2 rfl (opnF_cons rfl (by kernel_rfl) o3 rfl (opnF_one rfl (by kernel_rfl) o4))))))).imp ?_
  rintro m ⟨⟨a0, b0⟩, ⟨a1, b1⟩, ⟨a2, b2⟩, ⟨a3, b3⟩, ⟨a4, b4⟩⟩
  exact ⟨a0, b0, a1, b1, a2, b2, a3, b3, a4, b4⟩

set_option maxRecDepth 100000 in
theorem open_mod {H : Type} {enc : TypeId × Value → H} {W : World} {spare : Nat → Bool} {held : Bool} {r : Reach} {b0 : Nat} {v : Value} {d : DataW H} {ps : List MemPlace} (hv : Value.okWide Tryd.prog W r b0 28 v) (h : DataW.Trod enc Tryd.prog W 0 spare held 28 v d ps)
    (hw : ∀ n ∈ d.weights Tryd.prog 28, n ≤ reachBytes) : ∃ (m : Mod) (hm : ModH), v = m.v hm ∧ ModAt W m hm ∧ ModBig m := by
  obtain ⟨cs, rfl, hs⟩ := okWide_struct Tryd.underlying28 hv
  obtain ⟨fuel, hf⟩ := h
  obtain ⟨m, hK, hB⟩ := opn_Mod.out enc W spare held fuel (Value.agg cs).cells.toList (d, ps) hf hw
  obtain ⟨hm, hA, he⟩ := kMod_open hK
  refine ⟨m, hm, ?_, hA, hB⟩
  simp only [Value.cells] at he
  unfold Mod.v
  congr 1
  rw [← Array.toArray_toList (xs := cs), he]
set_option maxRecDepth 100000 in
theorem open_tys {H : Type} {enc : TypeId × Value → H} {W : World} {spare : Nat → Bool} {held : Bool} {r : Reach} {b0 : Nat} {v : Value} {d : DataW H} {ps : List MemPlace} (hv : Value.okWide Tryd.prog W r b0 29 v) (h : DataW.Trod enc Tryd.prog W 0 spare held 29 v d ps)
    (hw : ∀ n ∈ d.weights Tryd.prog 29, n ≤ reachBytes) : ∃ (l : List Ty) (A : Option Addr) (c : Nat), v = .slice A l.length c ∧ l.length ≤ c ∧ kTy.C W A l.length l ∧ TysOk l := by
  obtain ⟨a, n, c, rfl⟩ := okWide_slice Tryd.underlying29 hv
  obtain ⟨fuel, hf⟩ := h
  obtain ⟨l, ⟨A, c', he, hl, hC⟩, hQ⟩ := opn_Tys.out enc W spare held fuel (Value.slice a n c).cells.toList (d, ps) hf hw
  simp [Value.cells] at he
  obtain ⟨rfl, rfl, rfl⟩ := he
  exact ⟨l, a, c, rfl, hl, hC, hQ⟩
theorem ModBig.ok {m : Mod} (h : ModBig m) : ∀ x ∈ m.ints, 0 ≤ x ∧ x < 18446744073709551616 := by
  intro x hx
  have := h.r3 x hx
  have e1 : IntKind.u64.min = 0 := by decide
  have e2 : IntKind.u64.max = 18446744073709551615 := by decide
  omega
theorem i64_bounds {n : Int} (h : i64ok n) : -9223372036854775808 ≤ n ∧ n ≤ 9223372036854775807 := by
  have e1 : IntKind.i64.min = -9223372036854775808 := by decide
  have e2 : IntKind.i64.max = 9223372036854775807 := by decide
  unfold i64ok at h; omega
end Go.Proofs.YtgcokdcdpdndjaaDoor
