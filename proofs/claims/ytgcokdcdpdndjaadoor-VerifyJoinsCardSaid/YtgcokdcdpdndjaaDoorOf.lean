/- flow.of. -/
import Derived.Test.YtgcokdcdpdndjaaDoorFree
namespace Go.Proofs.YtgcokdcdpdndjaaDoor
open Go.RowKit Go.Proofs.YtgcokdcdpdndjaaDoorW.PrintWords
set_option linter.unusedVariables false
set_option linter.unusedSimpArgs false

def isFree (op : Int) : Bool := decide (op = 6) || decide (op = 7) || decide (op = 41)
def ofR (m : Mod) (f : Fn) (i : Ins) (st : List Ty) : Option Rul :=
  if isFree i.op = true then freeR i.op st else some ((plainR i.op).getD (named m f i))
theorem plain_or (op : Int) (h0 : 0 ≤ op) (h1 : op < 42) (hf : isFree op = false) (hp : plainR op = none) : isNamed op := by
  simp [isFree] at hf
  unfold isNamed
  have h : op = 0 ∨ op = 1 ∨ op = 2 ∨ op = 3 ∨ op = 4 ∨ op = 5 ∨ (8 ≤ op ∧ op ≤ 21) ∨ op = 22 ∨ op = 23 ∨ op = 24 ∨ op = 25 ∨ op = 26 ∨ op = 27 ∨ op = 28 ∨ op = 29 ∨ op = 30 ∨ op = 31 ∨ op = 32 ∨ op = 33 ∨ op = 34 ∨ op = 35 ∨ op = 36 ∨ op = 37 ∨ op = 38 ∨ op = 39 ∨ op = 40 := by omega
  rcases h with h | h | h | h | h | h | h | h | h | h | h | h | h | h | h | h | h | h | h | h | h | h | h | h | h | h
  case inr.inr.inr.inr.inr.inr.inl =>
    exfalso
    have e : plainR op = some ⟨[⟨1, 0⟩, ⟨1, 0⟩], [⟨1, 0⟩]⟩ := by
      simp only [plainR]; repeat (rw [if_neg (by omega)])
      rw [if_pos h]
    rw [e] at hp
    exact Option.some_ne_none _ hp
  all_goals first | (subst h; simp [plainR] at hp; done) | (subst h; simp; done)
theorem set2' {w1 : World} {r : Nat} {p q : Value} {T : TypeId} {fr : Nat × Nat} (h : w1.heap[r]? = some (.cells #[p, q] T fr)) (x y : Value) :
    ((w1.setCell ⟨r, 0, none⟩ x).setCell ⟨r, 1, none⟩ y).cell? ⟨r, 0, none⟩ = some x ∧ ((w1.setCell ⟨r, 0, none⟩ x).setCell ⟨r, 1, none⟩ y).cell? ⟨r, 1, none⟩ = some y := by
  obtain ⟨hlt, he⟩ := Array.getElem?_eq_some_iff.1 h
  have e : ((w1.setCell ⟨r, 0, none⟩ x).setCell ⟨r, 1, none⟩ y).heap[r]? = some (.cells #[x, y] T fr) := by
    simp [World.setCell, Array.getElem?_modify, h]
  exact ⟨by simp [World.cell?, e], by simp [World.cell?, e]⟩
theorem set2b {w1 : World} {r : Nat} {p q : Value} {T : TypeId} {fr : Nat × Nat} (h : w1.heap[r]? = some (.cells #[p, q] T fr)) (x y : Value) :
    ((w1.setCell ⟨r, 0, none⟩ x).setCell ⟨r, 1, none⟩ y).heap[r]? = some (.cells #[x, y] T fr) := by
  simp [World.setCell, Array.getElem?_modify, h]
/-- a row of types lives on where a rule's own box is written -/
theorem C_far {w : World} {A : Option Addr} {n : Nat} {xs : List Ty} (H : kTy.C w A n xs) {g : Nat} {B0 B1 : Option Addr} {n0 n1 k0 k1 : Nat} {T : TypeId} {fr : Nat × Nat}
    (hg : w.heap[g]? = some (.cells #[.slice B0 n0 k0, .slice B1 n1 k1] T fr)) (x y : Value) : kTy.C ((w.setCell ⟨g, 0, none⟩ x).setCell ⟨g, 1, none⟩ y) A n xs := by
  refine ⟨H.1, H.2.1, fun hn => ?_⟩
  obtain ⟨ad, e, hc⟩ := H.2.2 hn
  refine ⟨ad, e, fun j p hj => ?_⟩
  obtain ⟨c, hs, hr, hcell⟩ := hc j p hj
  refine ⟨c, hs, ?_, fun i u hu => ?_⟩
  · rw [kTy_open hr]; exact kTy_mk
  have h1 := hcell i u hu
  have hu' : ∃ v, u = .int .i64 v := by
    rw [kTy_open hr] at hu
    rcases i with _ | _ | i
    · simp at hu; exact ⟨_, hu.symm⟩
    · simp at hu; exact ⟨_, hu.symm⟩
    · simp at hu
  obtain ⟨v, rfl⟩ := hu'
  have hne : (ad.add (j * kTy.sz + i)).block ≠ g := by
    intro hb
    generalize ad.add (j * kTy.sz + i) = q at h1 hb
    simp only [World.cell?, hb, hg] at h1
    split at h1
    · exact absurd h1 (by simp)
    · rcases ho : q.off with _ | _ | o
      · rw [ho] at h1; simp at h1
      · rw [ho] at h1; simp at h1
      · rw [ho] at h1; simp at h1
  have e1 : ((w.setCell ⟨g, 0, none⟩ x).setCell ⟨g, 1, none⟩ y).heap[(ad.add (j * kTy.sz + i)).block]? = w.heap[(ad.add (j * kTy.sz + i)).block]? :=
    (Below.heap_setCell _ _ _ _ hne).trans (Below.heap_setCell _ _ _ _ hne)
  unfold World.cell? at h1 ⊢
  rw [e1]; exact h1
theorem RulAt.far {w : World} {r : Rul} {h : RulH} (H : RulAt w r h) {g : Nat} {B0 B1 : Option Addr} {n0 n1 k0 k1 : Nat} {T : TypeId} {fr : Nat × Nat}
    (hg : w.heap[g]? = some (.cells #[.slice B0 n0 k0, .slice B1 n1 k1] T fr)) (x y : Value) : RulAt ((w.setCell ⟨g, 0, none⟩ x).setCell ⟨g, 1, none⟩ y) r h :=
  ⟨C_far H.r0 hg x y, H.l0, C_far H.r1 hg x y, H.l1⟩
theorem below_set2 {w w1 : World} (h : Below w.heap.size w w1) {g : Nat} (hg : w.heap.size ≤ g) (x y : Value) : Below w.heap.size w ((w1.setCell ⟨g, 0, none⟩ x).setCell ⟨g, 1, none⟩ y) :=
  (h.setCell (p := ⟨g, 0, none⟩) hg x).setCell (p := ⟨g, 1, none⟩) hg y

set_option maxHeartbeats 3200000 in
theorem flowOfFree (m : Mod) (h : ModH) (f : Fn) (hf : FnH) (op a b : Int) (A : Option Addr) (c : Nat) (st : List Ty) (w : World) (hC : kTy.C w A st.length st) (hp : isFree op = true) :
    Calls Tryd.prog 56 #[m.v h, f.v hf, .agg #[.int .i64 op, .int .i64 a, .int .i64 b], .slice A st.length c] w (RuleRet w ((freeR op st).getD ⟨[], []⟩) (freeR op st).isSome) := by
  have hop : op = 6 ∨ op = 7 ∨ op = 41 := by simpa [isFree, or_assoc] using hp
  have C := Lib.hid (fun (W : World) (hb : Below w.heap.size w W) => flowFree A op c st W (Kd.C_below hC hb) hop)
  clear hC hp
  obtain ⟨q0, cc0, q1, cc1, q2, cc2, q3, cc3, q4, cc4⟩ := h
  unfold Mod.v Fn.v
  simp only
  rcases hop with rfl | rfl | rfl
  all_goals
    generalize (freeR _ st).getD ⟨[], []⟩ = R at C ⊢
    generalize (freeR _ st).isSome = ok at C ⊢
    go_enter Tryd.func56, Tryd.ntmps56
    go_wp2_with fail
    refine (C.out _ (bA4 _ _ _ _ _)).mono ?_
    rintro e w1 ⟨hr, rfl, HR, hb1⟩
    have hr4 : w1.heap[w.heap.size + 1 + 1 + 1]? = some (.cells #[.slice none 0 0, .slice none 0 0] 95 (0, 0)) := (hb1.block _ (by simp)).trans (at4_3 _ _ _ _ _)
    obtain ⟨hc1, hf1, _⟩ := bcell hb1
    have hs2 := fun x y => set2' hr4 x y
    have HR2 := Lib.hid (fun x y => HR.out.far hr4 x y)
    have HB2 := Lib.hid (fun x y => below_set2 (blt (bA4 w _ _ _ _) hb1) (g := w.heap.size + 1 + 1 + 1) (by omega) x y)
    have hs20 := fun x y => (hs2 x y).1
    have hs21 := fun x y => (hs2 x y).2
    clear hs2 hr4
    go_wp2_with fail
    refine bodyPost_ret (by simp [results, Tryd.results56, go_sem, hs20, hs21]; rfl) rfl ?_
    exact ⟨hr, rfl, Lib.hid (HR2.out _ _), HB2.out _ _⟩
theorem noFree {op : Int} (h : isFree op = false) : (op == 6) = false ∧ (op == 7) = false ∧ (op == 41) = false := by
  simp [isFree] at h; simp; omega
set_option maxHeartbeats 3200000 in
theorem flowOfPlain (m : Mod) (h : ModH) (f : Fn) (hf : FnH) (op a b : Int) (A : Option Addr) (c : Nat) (st : List Ty) (w : World) (hgl : Gl w) (hp : isFree op = false) (hs : (plainR op).isSome = true) :
    Calls Tryd.prog 56 #[m.v h, f.v hf, .agg #[.int .i64 op, .int .i64 a, .int .i64 b], .slice A st.length c] w (RuleRet w ((plainR op).getD ⟨[⟨1, 0⟩, ⟨1, 0⟩], [⟨1, 0⟩]⟩) true) := by
  obtain ⟨o1, o2, o3⟩ := noFree hp
  have C := Lib.hid (fun (W : World) (hb : Below w.heap.size w W) => flowPlain op W (hgl.below hb))
  rw [hs] at C
  clear hp hs hgl
  obtain ⟨q0, cc0, q1, cc1, q2, cc2, q3, cc3, q4, cc4⟩ := h
  unfold Mod.v Fn.v
  simp only
  generalize (plainR op).getD ⟨[⟨1, 0⟩, ⟨1, 0⟩], [⟨1, 0⟩]⟩ = R at C ⊢
  go_enter Tryd.func56, Tryd.ntmps56
  go_wp2_with fail
  refine (C.out _ (bA4 _ _ _ _ _)).mono ?_
  rintro e w1 ⟨hr, rfl, HR, hb1⟩
  have hr4 : w1.heap[w.heap.size + 1 + 1 + 1]? = some (.cells #[.slice none 0 0, .slice none 0 0] 95 (0, 0)) := (hb1.block _ (by simp)).trans (at4_3 _ _ _ _ _)
  obtain ⟨hc1, hf1, _⟩ := bcell hb1
  have hz1 : w.heap.size + 1 + 1 + 1 < w1.heap.size := by have := hb1.size; simp at this; omega
  have hs20 := fun x y o => (set2 hr4 x y o).1
  have hs21 := fun x y o => (set2 hr4 x y o).2
  have HR2 := Lib.hid (fun x y o => (HR.out.far hr4 x y).below (bAl _ o))
  have HB2 := Lib.hid (fun x y o => blt (below_set2 (blt (bA4 w _ _ _ _) hb1) (g := w.heap.size + 1 + 1 + 1) (by omega) x y) (bAl _ o))
  clear hr4
  go_wp2_with fail
  refine bodyPost_ret (by simp [results, Tryd.results56, go_sem, hs20, hs21]; rfl) rfl ?_
  exact ⟨hr, rfl, Lib.hid (HR2.out _ _ _), HB2.out _ _ _⟩
set_option maxHeartbeats 3200000 in
theorem flowOfNamed (m : Mod) (h : ModH) (f : Fn) (hf : FnH) (op a b : Int) (A : Option Addr) (c : Nat) (st : List Ty) (w : World) (hgl : Gl w) (hm : ModAt w m h) (hF : FnAt w f hf) (hal : f.args.length ≤ 100) (hll : f.locals.length ≤ 100) (ha : 0 ≤ a) (hb : 0 ≤ b)
    (hn : namesOk m f ⟨op, a, b⟩ = true) (hi : isNamed op) (hp : isFree op = false) (hs : (plainR op).isSome = false) :
    Calls Tryd.prog 56 #[m.v h, f.v hf, .agg #[.int .i64 op, .int .i64 a, .int .i64 b], .slice A st.length c] w (RuleRet w (named m f ⟨op, a, b⟩) true) := by
  obtain ⟨o1, o2, o3⟩ := noFree hp
  have C := Lib.hid (fun (W : World) (hb : Below w.heap.size w W) => flowPlain op W (hgl.below hb))
  have D := Lib.hid (fun (W : World) (hw : Below w.heap.size w W) => flowNamed m h f hf op a b W (hm.below hw) (hF.below hw) (hgl.below hw) hal hll ha hb hi hn)
  rw [hs] at C
  clear hp hs hgl hm hF hn hi ha hb hal hll
  obtain ⟨q0, cc0, q1, cc1, q2, cc2, q3, cc3, q4, cc4⟩ := h
  unfold Mod.v Fn.v at *
  simp only at *
  generalize (plainR op).getD ⟨[⟨1, 0⟩, ⟨1, 0⟩], [⟨1, 0⟩]⟩ = R0 at C ⊢
  generalize named m f ⟨op, a, b⟩ = R at D ⊢
  go_enter Tryd.func56, Tryd.ntmps56
  go_wp2_with fail
  refine (C.out _ (bA4 _ _ _ _ _)).mono ?_
  rintro e w1 ⟨hr, rfl, HR, hb1⟩
  have hr4 : w1.heap[w.heap.size + 1 + 1 + 1]? = some (.cells #[.slice none 0 0, .slice none 0 0] 95 (0, 0)) := (hb1.block _ (by simp)).trans (at4_3 _ _ _ _ _)
  obtain ⟨hc1, hf1, _⟩ := bcell hb1
  have hz1 : w.heap.size + 1 + 1 + 1 < w1.heap.size := by have := hb1.size; simp at this; omega
  have hy0 : w.heap.size < w1.heap.size := by omega
  have hy1 : w.heap.size + 1 < w1.heap.size := by omega
  have hy2 : w.heap.size + 1 + 1 < w1.heap.size := by omega
  go_wp2_with fail
  have hb1w := blt (bA4 w _ _ _ _) hb1
  refine (D.out _ (blt hb1w (bAl _ _))).mono ?_
  rintro e w2 ⟨hq, rfl, HQ, hb2⟩
  have hq4 : w2.heap[w.heap.size + 1 + 1 + 1]? = some (.cells #[.slice none 0 0, .slice none 0 0] 95 (0, 0)) := ((blt (bAl _ _) hb2).block _ hz1).trans hr4
  obtain ⟨hc2, hf2, _⟩ := bcell hb2
  have hz2 : w.heap.size + 1 + 1 + 1 < w2.heap.size := by have := hb2.size; simp at this; omega
  have hs20 := fun x y => (set2' hq4 x y).1
  have hs21 := fun x y => (set2' hq4 x y).2
  have HR2 := Lib.hid (fun x y => HQ.out.far hq4 x y)
  have HB2 := Lib.hid (fun x y => below_set2 (blt (blt hb1w (bAl _ _)) hb2) (g := w.heap.size + 1 + 1 + 1) (by omega) x y)
  clear hr4 hq4
  go_wp2_with fail
  refine bodyPost_ret (by simp [results, Tryd.results56, go_sem, hs20, hs21]; rfl) rfl ?_
  exact ⟨hq, rfl, Lib.hid (HR2.out _ _), HB2.out _ _⟩
/-- flow.of: the rule of an instruction, and whether it fits the stack -/
theorem flowOf (m : Mod) (h : ModH) (f : Fn) (hf : FnH) (op a b : Int) (A : Option Addr) (c : Nat) (st : List Ty) (w : World) (hgl : Gl w) (hm : ModAt w m h) (hF : FnAt w f hf) (hal : f.args.length ≤ 100) (hll : f.locals.length ≤ 100) (hC : kTy.C w A st.length st)
    (h0 : 0 ≤ op) (h1 : op < 42) (ha : 0 ≤ a) (hb : 0 ≤ b) (hn : namesOk m f ⟨op, a, b⟩ = true) :
    Calls Tryd.prog 56 #[m.v h, f.v hf, .agg #[.int .i64 op, .int .i64 a, .int .i64 b], .slice A st.length c] w (RuleRet w ((ofR m f ⟨op, a, b⟩ st).getD ⟨[], []⟩) (ofR m f ⟨op, a, b⟩ st).isSome) := by
  cases hp : isFree op with
  | true =>
    have e : ofR m f ⟨op, a, b⟩ st = freeR op st := by simp [ofR, hp]
    rw [e]; exact flowOfFree m h f hf op a b A c st w hC hp
  | false =>
    have e : ofR m f ⟨op, a, b⟩ st = some ((plainR op).getD (named m f ⟨op, a, b⟩)) := by simp [ofR, hp]
    rw [e]
    cases hs : plainR op with
    | some r =>
      have := flowOfPlain m h f hf op a b A c st w hgl hp (by rw [hs]; rfl)
      rw [hs] at this; exact this
    | none =>
      exact flowOfNamed m h f hf op a b A c st w hgl hm hF hal hll ha hb hn (plain_or op h0 h1 hp hs) hp (by rw [hs]; rfl)
end Go.Proofs.YtgcokdcdpdndjaaDoor
