/- module.writer: count, types. -/
import Derived.Test.YtgcokdcdpdndjaaDoorFits
import Derived.Deep.RegionLaw
import Derived.BigRegion
namespace Go.Proofs.YtgcokdcdpdndjaaDoor
open Go.RowKit Go.Proofs.YtgcokdcdpdndjaaDoorW.PrintWords
set_option linter.unusedVariables false
set_option linter.unusedSimpArgs false

/-- the blocks of P are kept -/
structure KB (P : Nat → Prop) (w w' : World) : Prop where
  os : w'.os = w.os
  tape : w'.tape = w.tape
  output : w'.output = w.output
  size : w.heap.size ≤ w'.heap.size
  block : ∀ k, P k → w'.heap[k]? = w.heap[k]?
theorem KB.refl (P : Nat → Prop) (w : World) : KB P w w := ⟨rfl, rfl, rfl, Nat.le_refl _, fun _ _ => rfl⟩
theorem KB.trans {P : Nat → Prop} {a b c : World} (h : KB P a b) (k : KB P b c) : KB P a c :=
  ⟨k.os.trans h.os, k.tape.trans h.tape, k.output.trans h.output, Nat.le_trans h.size k.size, fun i hi => (k.block i hi).trans (h.block i hi)⟩
theorem KB.mono {P P' : Nat → Prop} {a b : World} (h : KB P a b) (hp : ∀ k, P' k → P k) : KB P' a b := ⟨h.os, h.tape, h.output, h.size, fun i hi => h.block i (hp i hi)⟩
theorem KB.of_below {P : Nat → Prop} {B : Nat} {w w' : World} (h : Below B w w') (hb : ∀ k, P k → k < B) : KB P w w' := ⟨h.os, h.tape, h.output, h.size, fun k hk => h.block k (hb k hk)⟩
theorem KB.below {P : Nat → Prop} {B : Nat} {w w' : World} (h : KB P w w') (hP : ∀ k, k < B → P k) : Below B w w' := ⟨h.os, h.tape, h.output, h.size, fun k hk => h.block k (hP k hk)⟩
theorem KB.alloc {P : Nat → Prop} {w : World} (o : Obj) (hP : ∀ k, P k → k < w.heap.size) : KB P w (w.alloc o) := KB.of_below (bAl w o) hP
theorem KB.grown {P : Nat → Prop} {w w' : World} {row : Option Nat} (h : w.grownBy w' row) (hP : ∀ k, P k → k < w.heap.size ∧ some k ≠ row) : KB P w w' := ⟨h.os, h.tape, h.output, h.size, fun k hk => h.block k (hP k hk).1 (hP k hk).2⟩
theorem KB.set {P : Nat → Prop} {w : World} {g : Nat} (hg : ¬ P g) (v : Value) : KB P w (w.setCell ⟨g, 0, none⟩ v) :=
  ⟨rfl, rfl, rfl, by simp [World.setCell], fun k hk => Below.heap_setCell w ⟨g, 0, none⟩ v k (fun e => by simp only at e; subst e; exact hg hk)⟩
theorem KB.cell {P : Nat → Prop} {W w1 : World} (hb : KB P W w1) {b : Nat} (o : Nat) (h : P b) : w1.cell? ⟨b, o, none⟩ = W.cell? ⟨b, o, none⟩ := World.cell?_of_block (a := ⟨b, o, none⟩) (hb.block b h)
theorem KB.frozen {P : Nat → Prop} {W w1 : World} (hb : KB P W w1) {b : Nat} (o : Nat) (h : P b) : w1.frozen? ⟨b, o, none⟩ = W.frozen? ⟨b, o, none⟩ := World.frozen?_of_block (a := ⟨b, o, none⟩) (hb.block b h)
theorem kcell {P : Nat → Prop} {W w1 : World} (B : Nat) (hb : KB P W w1) (hP : ∀ k, k < B → P k) : (∀ b o, b < B → w1.cell? ⟨b, o, none⟩ = W.cell? ⟨b, o, none⟩) ∧ (∀ b o, b < B → w1.frozen? ⟨b, o, none⟩ = W.frozen? ⟨b, o, none⟩) :=
  ⟨fun b o h => hb.cell o (hP b h), fun b o h => hb.frozen o (hP b h)⟩

theorem heap_lt {w : World} {g : Nat} {x : Obj} (h : w.heap[g]? = some x) : g < w.heap.size := (Array.getElem?_eq_some_iff.1 h).1
/-- a writer: block g holds a row of bytes of the call's own (from base on) that lies outside of P -/
def Wr (w : World) (base g : Nat) (P : Nat → Prop) (bs : List Int) : Prop :=
  ∃ v, w.heap[g]? = some (.cells #[v] 136 (0, 0)) ∧ OB w base v bs ∧ base ≤ w.heap.size ∧ (∀ k, P k → k < w.heap.size ∧ k ≠ g) ∧ ∀ k, v.ownBlock = some k → ¬ P k ∧ k ≠ g ∧ k < w.heap.size
theorem OB.lt {w : World} {base : Nat} {v : Value} {bs : List Int} (h : OB w base v bs) : ∀ k, v.ownBlock = some k → k < w.heap.size := fun k hk => by
  obtain ⟨_, inner, ho, _⟩ := h
  exact own_lt ho k hk
theorem Wr.below {w W : World} {base g : Nat} {P : Nat → Prop} {bs : List Int} (h : Wr w base g P bs) (hb : Below w.heap.size w W) : Wr W base g P bs := by
  obtain ⟨v, h1, h2, h3, h4, h5⟩ := h
  have := heap_lt h1
  exact ⟨v, (hb.block g this).trans h1, h2.below hb, Nat.le_trans h3 hb.size, fun k hk => ⟨Nat.lt_of_lt_of_le (h4 k hk).1 hb.size, (h4 k hk).2⟩, fun k hk => ⟨(h5 k hk).1, (h5 k hk).2.1, Nat.lt_of_lt_of_le (h5 k hk).2.2 hb.size⟩⟩
theorem Wr.mono {w : World} {base g : Nat} {P P' : Nat → Prop} {bs : List Int} (h : Wr w base g P bs) (hp : ∀ k, P' k → P k) : Wr w base g P' bs := by
  obtain ⟨v, h1, h2, h3, h4, h5⟩ := h
  exact ⟨v, h1, h2, h3, fun k hk => h4 k (hp k hk), fun k hk => ⟨fun hq => (h5 k hk).1 (hp k hq), (h5 k hk).2⟩⟩
/-- a new block is protected, too -/
theorem Wr.alloc {w : World} {base g : Nat} {P : Nat → Prop} {bs : List Int} (h : Wr w base g P bs) (o : Obj) : Wr (w.alloc o) base g (fun k => P k ∨ k = w.heap.size) bs := by
  have hlt : g < w.heap.size := by obtain ⟨v, h1, _⟩ := h; exact heap_lt h1
  obtain ⟨v, h1, h2, h3, h4, h5⟩ := h.below (bAl w o)
  obtain ⟨v', h1', _, _, h4', h5'⟩ := h
  obtain rfl : v = v' := by
    rw [(bAl w o).block g hlt, h1'] at h1
    injection h1 with h1; injection h1 with h1; simp at h1; exact h1.symm
  refine ⟨v, h1, h2, h3, fun k hk => ?_, fun k hk => ⟨fun hq => ?_, (h5 k hk).2⟩⟩
  · rcases hk with hk | rfl
    · exact h4 k hk
    · simp at hlt ⊢; omega
  · have := h5' k hk
    rcases hq with hq | rfl
    · exact this.1 hq
    · omega
theorem OB.base {w : World} {base : Nat} {v : Value} {bs : List Int} (h : OB w base v bs) : ∀ k, v.ownBlock = some k → base ≤ k := fun k hk => by
  obtain ⟨_, inner, ho, _⟩ := h
  exact own_base ho k hk
theorem Wr.stored {w w1 w2 : World} {base g n : Nat} {P : Nat → Prop} {bs : List Int} {A : Option Addr} {c : Nat} {v : Value} (hb1 : Below w.heap.size w w1) (hg : w2.heap[g]? = some (.cells #[v] 136 (0, 0))) (hO : OB w2 base (.slice A bs.length c) bs) (hn : bs.length = n) (hs : base ≤ w.heap.size)
    (hP : ∀ k, P k → k < w.heap.size ∧ k ≠ g) (hv : ∀ k, v.ownBlock = some k → ¬ P k ∧ k ≠ g ∧ k < w.heap.size) (hlt : g < w.heap.size) (hg2 : w1.grownBy w2 v.ownBlock)
    (hat : (Value.slice A bs.length c).ownBlock = v.ownBlock ∨ ∃ b, (Value.slice A bs.length c).ownBlock = some b ∧ w1.heap.size ≤ b) :
    Wr (w2.setCell ⟨g, 0, none⟩ (.slice A n c)) base g P bs ∧ KB P w (w2.setCell ⟨g, 0, none⟩ (.slice A n c)) := by
  subst hn
  have hsz1 := hb1.size
  have hsz2 := hg2.size
  have hv' : ∀ k, (Value.slice A bs.length c).ownBlock = some k → ¬ P k ∧ k ≠ g := fun k hk => by
    rcases hat with h | ⟨b, h, hb⟩
    · have := hv k (h ▸ hk); exact ⟨this.1, this.2.1⟩
    · rw [h] at hk; injection hk with hk
      exact ⟨fun hq => by have := hP k hq; omega, by omega⟩
  have hP' : ¬ P g := fun h => (hP g h).2 rfl
  constructor
  · refine ⟨_, ?_, hO.far (fun k hk => (hv' k hk).2) _ _, by simp [World.setCell]; omega, fun k hk => ⟨by have := hP k hk; simp [World.setCell]; omega, (hP k hk).2⟩, fun k hk => ⟨(hv' k hk).1, (hv' k hk).2, by have := hO.lt k hk; simpa [World.setCell] using this⟩⟩
    simp [World.setCell, Array.getElem?_modify, hg]
  · refine ((KB.of_below hb1 (fun k hk => (hP k hk).1)).trans (KB.grown hg2 (fun k hk => ⟨by have := hP k hk; omega, fun e => (hv k e.symm).1 hk⟩))).trans (KB.set hP' _)

set_option maxHeartbeats 1600000 in
theorem writerCount (g base : Nat) (bs : List Int) (n : Int) (w : World) (h0 : 0 ≤ n) (h1 : n ≤ 9223372036854775807) (hl : bs.length ≤ 100000000000) (P : Nat → Prop) (hW : Wr w base g P bs) :
    Calls Tryd.prog 106 #[.pointer (some ⟨g, 0, none⟩), .int .i64 n] w fun e w' => e = .returned (.tuple #[]) ∧ Hid (Wr w' base g P (bs ++ varB n.toNat)) ∧ KB P w w' := by
  obtain ⟨v, hg, hO, hbs, hP, hv⟩ := hW
  have HP := Lib.hid hP
  have HV := Lib.hid hv
  clear hP hv
  have HO := Lib.hid hO
  clear hO
  have hc : w.cell? ⟨g, 0, none⟩ = some v := by simp [World.cell?, hg]
  have hfz : w.frozen? ⟨g, 0, none⟩ = false := by simp [World.frozen?, hg]
  have HG := Lib.hid hg
  clear hg
  have hlt := World.block_lt_of_cell? _ _ hc
  simp only at hlt
  have hvl := varB_len64 (v := n.toNat) (by omega)
  go_enter Tryd.func106, Tryd.ntmps106
  go_wp2_with fail
  go_region_law (first
    | ((with_reducible refine gs_app (.tmp 8) (.tmp 11) rfl ?_); refine appNs (.tmp 8) (.tmp 11) base v bs (varB n.toNat) A1 (varB n.toNat).length c1 ?c1 ?c2 ?c4 ?c5 rfl rfl rfl rfl ?_; (case c1 => exact HO.out.below hb1'); (case c2 => exact HO1.out.C); (case c4 => have := hb1'.size; omega); (case c5 => omega); intro v1 w2 HO2 hb2 hg2 hat2; obtain ⟨A3, c3, rfl, -, -⟩ := HO2.out.reads; have HG2 := Lib.hid (((hg2.block g (by have := hb1'.size; omega) (fun e => (HV.out g e.symm).2.1 rfl)).trans (hb1'.block g (by omega))).trans HG.out); have hc2 : w2.cell? ⟨g, 0, none⟩ = some v := (by simp [World.cell?, HG2.out]); have hf2 : w2.frozen? ⟨g, 0, none⟩ = false := (by simp [World.frozen?, HG2.out]))
    | (go_simp; go_at_call 105; with_reducible refine (numVarW n _ h0 h1).mono ?_; intro e w1 hr; obtain ⟨A1, c1, rfl, HO1, hb1⟩ := hr.open_; clear hr; have hb1' : Below w.heap.size w w1 := blt ((Below.refl _ _).drew) hb1; have hc1 : w1.cell? ⟨g, 0, none⟩ = some v := pw_cell_below hb1' hc; dsimp only))
  all_goals
    go_end0
    obtain ⟨r1, r2⟩ := Wr.stored hb1' HG2.out HO2.out List.length_append hbs HP.out HV.out hlt hg2 hat2
    exact ⟨rfl, Lib.hid r1, r2⟩

def typesB (l : List Ty) : List Int := (l.map putTy).flatten
def tysB (l : List Ty) : List Int := varB l.length ++ typesB l
theorem putTy_len (t : Ty) (h : t.kind ≤ 255 ∧ t.n ≤ 255) : (putTy t).length ≤ 20 := by
  have h1 := varB_len64 (v := (max t.kind 0).toNat) (by omega)
  have h2 := varB_len64 (v := (max t.n 0).toNat) (by omega)
  simp [putTy]; omega
theorem typesB_len (l : List Ty) (h : ∀ t ∈ l, t.kind ≤ 255 ∧ t.n ≤ 255) : (typesB l).length ≤ 20 * l.length := by
  induction l with
  | nil => simp [typesB]
  | cons t l ih =>
    have h1 := putTy_len t (h t (by simp))
    have h2 := ih (fun x hx => h x (by simp [hx]))
    simp [typesB] at h2 ⊢; omega
theorem take_succ_map {α β : Type} (f : α → List β) (l : List α) (k : Nat) (x : α) (h : l[k]? = some x) : ((l.take (k + 1)).map f).flatten = ((l.take k).map f).flatten ++ f x := by
  obtain ⟨hk, rfl⟩ := List.getElem?_eq_some_iff.1 h
  rw [List.take_succ_eq_append_getElem hk, List.map_append, List.flatten_append]; simp

set_option maxHeartbeats 3200000 in
theorem writerTypes (g base : Nat) (bs : List Int) (A : Option Addr) (c : Nat) (l : List Ty) (w0 w : World) (hC : kTy.C w0 A l.length l) (hb0 : Below w0.heap.size w0 w) (P : Nat → Prop) (hP0 : ∀ k, k < w0.heap.size → P k) (hll : l.length ≤ 1000) (hsm : ∀ t ∈ l, t.kind ≤ 255 ∧ t.n ≤ 255) (hl : bs.length ≤ 10000000000) (hW : Wr w base g P bs) :
    Calls Tryd.prog 107 #[.pointer (some ⟨g, 0, none⟩), .slice A l.length c] w fun e w' => e = .returned (.tuple #[]) ∧ Hid (Wr w' base g P (bs ++ tysB l)) ∧ KB P w w' := by
  have HC := Lib.hid hC
  have HW := Lib.hid hW
  have HS := Lib.hid hsm
  clear hC hW hsm
  have HP0 := Lib.hid hP0
  clear hP0
  have hvl := varB_len64 (v := l.length) (by omega)
  go_enter Tryd.func107, Tryd.ntmps107
  go_wp2_with fail
  refine (writerCount g base bs _ _ (by omega) (by omega) (by omega) P HW.out).mono ?_
  rintro e w1 ⟨rfl, HW1, hk1⟩
  rw [Int.toNat_natCast] at HW1
  go_wp2_with fail
  go_loopw [12] (fun i W => ∃ k : Nat, k ≤ l.length ∧ i = .int .i64 k ∧ Hid (Wr W base g P (bs ++ varB l.length ++ typesB (l.take k))) ∧ KB P w W) (fun i _ => l.length - (intOf i).toNat)
  case atStart => exact ⟨0, Nat.zero_le _, rfl, by simpa [typesB] using HW1, hk1⟩
  case round =>
    obtain ⟨k, hk, rfl, HW2, hk2⟩ := hrel
    by_cases hlt : k < l.length
    · have hbw : Below w0.heap.size w0 wr := hb0.trans (hk2.below HP0.out)
      obtain ⟨ad, t, rfl, hx, hy0, hy1⟩ := at_Ty (Kd.C_below HC.out hbw) k hlt
      have HX := Lib.hid hx
      clear hx
      obtain ⟨v, hg, hO, hbs, hP, hv⟩ := HW2.out
      have HP := Lib.hid hP
      have HV := Lib.hid hv
      clear hP hv
      have hlen : (bs ++ varB l.length ++ typesB (l.take k)).length ≤ 10000100000 := by
        have := typesB_len (l.take k) (fun t ht => HS.out t (List.mem_of_mem_take ht))
        rw [List.length_take] at this
        simp; omega
      obtain ⟨hs1, hs2⟩ := HS.out t (List.mem_of_getElem? HX.out)
      have hpl : (putTy ⟨t.kind, t.n⟩).length ≤ 20 := putTy_len t ⟨hs1, hs2⟩
      generalize hbs' : bs ++ varB l.length ++ typesB (l.take k) = bs' at *
      have HBS := Lib.hid hbs'
      clear hbs'
      have HO := Lib.hid hO
      clear hO
      have hc : wr.cell? ⟨g, 0, none⟩ = some v := by simp [World.cell?, hg]
      have hca : ∀ o, (wr.alloc o).cell? ⟨g, 0, none⟩ = some v := fun o => pw_cell_below (bAl wr o) hc
      have hltg := World.block_lt_of_cell? _ _ hc
      simp only at hltg
      have HG := Lib.hid hg
      clear hg
      go_wp2_with fail
      go_region_law (first
        | ((with_reducible refine gs_app (.tmp 20) (.tmp 22) rfl ?_); refine appNs (.tmp 20) (.tmp 22) base v bs' (putTy ⟨t.kind, t.n⟩) A1 (putTy ⟨t.kind, t.n⟩).length c1 ?c1 ?c2 ?c4 ?c5 rfl rfl rfl rfl ?_; (case c1 => exact HO.out.below hb1'); (case c2 => exact HO1.out.C); (case c4 => have := hb1'.size; omega); (case c5 => omega); intro v1 w2 HO2 hb2 hg2 hat2; obtain ⟨A3, c3, rfl, -, -⟩ := HO2.out.reads; have HG2 := Lib.hid (((hg2.block g (by have := hb1'.size; omega) (fun e => (HV.out g e.symm).2.1 rfl)).trans (hb1'.block g (by omega))).trans HG.out); have hc2 : w2.cell? ⟨g, 0, none⟩ = some v := (by simp [World.cell?, HG2.out]); have hf2 : w2.frozen? ⟨g, 0, none⟩ = false := (by simp [World.frozen?, HG2.out]))
        | (go_simp; go_at_call 108; with_reducible refine (kindPut t.kind t.n _ (by omega) (by omega)).mono ?_; intro e w1 hr; obtain ⟨A1, c1, rfl, HO1, hb1⟩ := hr.open_; clear hr; have hb1' : Below wr.heap.size wr w1 := blt ((bAl _ _).drew) hb1; have hc1 : w1.cell? ⟨g, 0, none⟩ = some v := pw_cell_below hb1' hc; dsimp only))
      all_goals
        go_wp2_with fail
        go_roundw
        case rel =>
          obtain ⟨r1, r2⟩ := Wr.stored hb1' HG2.out HO2.out List.length_append hbs HP.out HV.out hltg hg2 hat2
          refine ⟨k + 1, by omega, by go_num, Lib.hid ?_, hk2.trans r2⟩
          rw [typesB, take_succ_map putTy l k t HX.out, ← typesB, ← List.append_assoc, HBS.out]
          exact r1
        case measure => simp [intOf]; omega
    · obtain rfl : k = l.length := by omega
      go_wp2
      go_end0
      refine ⟨rfl, Lib.hid ?_, hk2⟩
      have := HW2.out
      rwa [List.take_length, List.append_assoc] at this
end Go.Proofs.YtgcokdcdpdndjaaDoor
