/- module.records, module.functions, module.imports, module.numbers, module.texts. -/
import Derived.Test.YtgcokdcdpdndjaaDoorWriter
namespace Go.Proofs.YtgcokdcdpdndjaaDoor
open Go.RowKit Go.Proofs.YtgcokdcdpdndjaaDoorW.PrintWords
set_option linter.unusedVariables false
set_option linter.unusedSimpArgs false

theorem Wr.init (w : World) (o : Obj) : Wr ((w.alloc o).alloc (.cells #[.slice none 0 0] 136)) w.heap.size (w.heap.size + 1) (fun k => k < w.heap.size + 1) [] := by
  refine ⟨_, ?_, OB.nil _ _, by simp; omega, fun k hk => by simp; omega, fun k hk => by simp [Value.ownBlock] at hk⟩
  rw [show w.heap.size + 1 = (w.alloc o).heap.size by simp]; exact heap_alloc_new _ _
theorem flat_len {α β : Type} (f : α → List β) (B : Nat) (l : List α) (h : ∀ x ∈ l, (f x).length ≤ B) : ((l.map f).flatten).length ≤ B * l.length := by
  induction l with
  | nil => simp
  | cons t l ih =>
    have h1 := h t (by simp)
    have h2 := ih (fun x hx => h x (by simp [hx]))
    simp only [List.map_cons, List.flatten_cons, List.length_append, List.length_cons, Nat.mul_add]; omega
theorem flat_take_len {α β : Type} (f : α → List β) (B : Nat) (l : List α) (k : Nat) (h : ∀ x ∈ l, (f x).length ≤ B) : (((l.take k).map f).flatten).length ≤ B * l.length := by
  refine Nat.le_trans (flat_len f B _ (fun x hx => h x (List.mem_of_mem_take hx))) (Nat.mul_le_mul_left _ ?_)
  rw [List.length_take]; omega
/-- a list of types that is short, and its types small -/
def SmT (l : List Ty) : Prop := l.length ≤ 8 ∧ ∀ t ∈ l, t.kind ≤ 255 ∧ t.n ≤ 255
theorem tysB_len {l : List Ty} (h : SmT l) : (tysB l).length ≤ 200 := by
  have h1 := varB_len64 (v := l.length) (by have := h.1; omega)
  have h2 := typesB_len l h.2
  have h3 := h.1
  simp only [tysB, List.length_append]; omega
def recsB (m : Mod) : List Int := varB m.recs.length ++ (m.recs.map tysB).flatten
def fix8 (x : Int) : List Int := fixB x.toNat 8
def numsB (m : Mod) : List Int := varB m.ints.length ++ (m.ints.map fix8).flatten
def impB (i : Imp) : List Int := tysB i.args ++ putTy i.ret
def impsB (m : Mod) : List Int := varB m.imports.length ++ (m.imports.map impB).flatten
def codeB (l : List Ins) : List Int := varB l.length ++ (l.map insPut).flatten
def fnB (f : Fn) : List Int := tysB f.args ++ putTy f.ret ++ tysB f.locals ++ codeB f.code
def funcsB (m : Mod) : List Int := varB m.funcs.length ++ (m.funcs.map fnB).flatten
def strB (s : ByteArray) : List Int := varB s.size ++ bytesOf s
def textsB (m : Mod) : List Int := varB m.texts.length ++ (m.texts.map strB).flatten

set_option maxHeartbeats 3200000 in
theorem moduleRecords (m : Mod) (h : ModH) (w : World) (hm : ModAt w m h) (hn : m.recs.length ≤ 1000) (hs : ∀ l ∈ m.recs, SmT l) :
    Calls Tryd.prog 76 #[m.v h] w (RetB w (recsB m)) := by
  unfold recsB
  obtain ⟨recs, funcs, imports, ints, texts⟩ := m
  obtain ⟨A0, c0, A1, c1, A2, c2, A3, c3, A4, c4⟩ := h
  obtain ⟨r0, l0, r1, l1, r2, l2, r3, l3, r4, l4⟩ := hm
  simp only at r0 l0 r1 l1 r2 l2 r3 l3 r4 l4
  have R := Lib.hid r0
  clear r0 r1 r2 r3 r4 l0 l1 l2 l3 l4
  unfold Mod.v
  simp only at *
  have HS := Lib.hid hs
  clear hs
  have hvl := varB_len64 (v := recs.length) (by omega)
  go_enter Tryd.func76, Tryd.ntmps76
  go_wp2_with fail
  refine (writerCount (w.heap.size + 1) w.heap.size [] _ _ (by omega) (by omega) (by simp) (fun k => k < w.heap.size + 1) (Wr.init _ _)).mono ?_
  rintro e w1 ⟨rfl, HW1, hk1⟩
  rw [Int.toNat_natCast, List.nil_append] at HW1
  obtain ⟨hkc1, hkf1⟩ := kcell (w.heap.size + 1) hk1 (fun _ h => h)
  go_wp2_with fail
  go_loopw [16] (fun i W => ∃ k : Nat, k ≤ recs.length ∧ i = .int .i64 k ∧ Hid (Wr W w.heap.size (w.heap.size + 1) (fun k => k < w.heap.size + 1) (varB recs.length ++ ((recs.take k).map tysB).flatten)) ∧ KB (fun k => k < w.heap.size + 1) w1 W) (fun i _ => recs.length - (intOf i).toNat)
  case atStart => exact ⟨0, Nat.zero_le _, rfl, by simpa using HW1, KB.refl _ _⟩
  case round =>
    obtain ⟨k, hk, rfl, HW2, hk2⟩ := hrel
    have hbw : Below w.heap.size w wr := (bAl2 w _ _).trans ((hk1.trans hk2).below (fun k h => Nat.lt_succ_of_lt h))
    by_cases hlt : k < recs.length
    · obtain ⟨ad, x, Ax, cx, rfl, hx, hA, hA2, hy⟩ := at_Tys R.out k hlt
      have hy0 := pw_cell_below hbw hy
      clear hy
      have HX := Lib.hid hx
      have HA := Lib.hid hA
      clear hx hA
      obtain ⟨hs1, hs2⟩ := HS.out x (List.mem_of_getElem? HX.out)
      have hlen := flat_take_len tysB 200 recs k (fun x hx => tysB_len (HS.out x hx))
      have HS2 := Lib.hid hs2
      clear hs2
      go_wp2_with fail
      refine (writerTypes (w.heap.size + 1) w.heap.size _ Ax cx x w wr HA.out hbw _ (fun k hk => Nat.lt_succ_of_lt hk) (by omega) HS2.out ?_ HW2.out).mono ?_
      · rw [List.length_append]; omega
      rintro e w3 ⟨rfl, HW3, hk3⟩
      go_wp2
      go_roundw
      case rel =>
        refine ⟨k + 1, by omega, by go_num, Lib.hid ?_, hk2.trans hk3⟩
        rw [take_succ_map tysB recs k x HX.out, ← List.append_assoc]
        exact HW3.out
      case measure => simp [intOf]; omega
    · obtain rfl : k = recs.length := by omega
      obtain ⟨v, hg, hO, hbs, hP, hv⟩ := HW2.out
      have HP := Lib.hid hP
      have HV := Lib.hid hv
      have HO := Lib.hid hO
      clear hP hv hO
      have hc : wr.cell? ⟨w.heap.size + 1, 0, none⟩ = some v := by simp [World.cell?, hg]
      have hltg := heap_lt hg
      have HG := Lib.hid hg
      clear hg
      go_wp2
      go_ret
      have := HO.out
      rw [List.take_length] at this
      exact RetB.mk this hbw

set_option maxHeartbeats 3200000 in
theorem moduleNumbers (m : Mod) (h : ModH) (w : World) (hm : ModAt w m h) (hn : m.ints.length ≤ 1000) (hs : ∀ x ∈ m.ints, 0 ≤ x ∧ x < 18446744073709551616) :
    Calls Tryd.prog 79 #[m.v h] w (RetB w (numsB m)) := by
  unfold numsB
  obtain ⟨recs, funcs, imports, ints, texts⟩ := m
  obtain ⟨A0, c0, A1, c1, A2, c2, A3, c3, A4, c4⟩ := h
  obtain ⟨r0, l0, r1, l1, r2, l2, r3, l3, r4, l4⟩ := hm
  simp only at r0 l0 r1 l1 r2 l2 r3 l3 r4 l4
  have R := Lib.hid r3
  clear r0 r1 r2 r3 r4 l0 l1 l2 l3 l4
  unfold Mod.v
  simp only at *
  have HS := Lib.hid hs
  clear hs
  have hvl := varB_len64 (v := ints.length) (by omega)
  go_enter Tryd.func79, Tryd.ntmps79
  go_wp2_with fail
  refine (writerCount (w.heap.size + 1) w.heap.size [] _ _ (by omega) (by omega) (by simp) (fun k => k < w.heap.size + 1) (Wr.init _ _)).mono ?_
  rintro e w1 ⟨rfl, HW1, hk1⟩
  rw [Int.toNat_natCast, List.nil_append] at HW1
  obtain ⟨hkc1, hkf1⟩ := kcell (w.heap.size + 1) hk1 (fun _ h => h)
  go_wp2_with fail
  go_loopw [16] (fun i W => ∃ k : Nat, k ≤ ints.length ∧ i = .int .i64 k ∧ Hid (Wr W w.heap.size (w.heap.size + 1) (fun k => k < w.heap.size + 1) (varB ints.length ++ ((ints.take k).map fix8).flatten)) ∧ KB (fun k => k < w.heap.size + 1) w1 W) (fun i _ => ints.length - (intOf i).toNat)
  case atStart => exact ⟨0, Nat.zero_le _, rfl, by simpa using HW1, KB.refl _ _⟩
  case round =>
    obtain ⟨k, hk, rfl, HW2, hk2⟩ := hrel
    have hbw : Below w.heap.size w wr := (bAl2 w _ _).trans ((hk1.trans hk2).below (fun k h => Nat.lt_succ_of_lt h))
    by_cases hlt : k < ints.length
    · obtain ⟨ad, x, rfl, hx, hy0⟩ := at_u64 (Kd.C_below R.out hbw) k hlt
      have HX := Lib.hid hx
      clear hx
      obtain ⟨hs1, hs2⟩ := HS.out x (List.mem_of_getElem? HX.out)
      obtain ⟨x, rfl⟩ := Int.eq_ofNat_of_zero_le hs1
      have hlen := flat_take_len fix8 8 ints k (fun x hx => by simp [fix8, fixB_len])
      have hlen' : (varB ints.length ++ ((ints.take k).map fix8).flatten).length ≤ 10000 := by rw [List.length_append]; omega
      generalize hbs' : varB ints.length ++ ((ints.take k).map fix8).flatten = bs' at *
      have HBS := Lib.hid hbs'
      clear hbs'
      have hpl : (fixB x 8).length ≤ 8 := by rw [fixB_len]; omega
      obtain ⟨v, hg, hO, hbs, hP, hv⟩ := HW2.out
      have HP := Lib.hid hP
      have HV := Lib.hid hv
      have HO := Lib.hid hO
      clear hP hv hO
      have hc : wr.cell? ⟨w.heap.size + 1, 0, none⟩ = some v := by simp [World.cell?, hg]
      have hltg := heap_lt hg
      have HG := Lib.hid hg
      clear hg
      have hca : ∀ o, (wr.alloc o).cell? ⟨w.heap.size + 1, 0, none⟩ = some v := fun o => pw_cell_below (bAl wr o) hc
      go_wp2_with fail
      go_region_law (first
        | ((with_reducible refine gs_app (.tmp 24) (.tmp 26) rfl ?_); refine appNs (.tmp 24) (.tmp 26) w.heap.size v bs' (fixB x 8) A1 (fixB x 8).length c1 ?c1 ?c2 ?c4 ?c5 rfl rfl rfl rfl ?_; (case c1 => exact HO.out.below hb1'); (case c2 => exact HO1.out.C); (case c4 => have := hb1'.size; omega); (case c5 => omega); intro v1 w2 HO2 hb2 hg2 hat2; obtain ⟨A3, c3, rfl, -, -⟩ := HO2.out.reads; have HG2 := Lib.hid (((hg2.block (w.heap.size + 1) (by have := hb1'.size; omega) (fun e => (HV.out _ e.symm).2.1 rfl)).trans (hb1'.block (w.heap.size + 1) (by omega))).trans HG.out); have hc2 : w2.cell? ⟨w.heap.size + 1, 0, none⟩ = some v := (by simp [World.cell?, HG2.out]); have hf2 : w2.frozen? ⟨w.heap.size + 1, 0, none⟩ = false := (by simp [World.frozen?, HG2.out]))
        | (go_simp; go_at_call 110; with_reducible refine (numFixed x 8 _ (by omega)).mono ?_; intro e w1 hr; obtain ⟨A1, c1, rfl, HO1, hb1⟩ := hr.open_; clear hr; have hb1' : Below wr.heap.size wr w1 := blt ((Below.refl _ _).drew) hb1; have hc1 : w1.cell? ⟨w.heap.size + 1, 0, none⟩ = some v := pw_cell_below hb1' hc; dsimp only))
      all_goals
        go_wp2_with fail
        go_roundw
        case rel =>
          obtain ⟨r1, r2⟩ := Wr.stored hb1' HG2.out HO2.out List.length_append hbs HP.out HV.out hltg hg2 hat2
          refine ⟨k + 1, by omega, by go_num, Lib.hid ?_, hk2.trans r2⟩
          rw [take_succ_map fix8 ints k x HX.out, ← List.append_assoc, HBS.out]
          exact r1
        case measure => simp [intOf]; omega
    · obtain rfl : k = ints.length := by omega
      obtain ⟨v, hg, hO, hbs, hP, hv⟩ := HW2.out
      have HP := Lib.hid hP
      have HV := Lib.hid hv
      have HO := Lib.hid hO
      clear hP hv hO
      have hc : wr.cell? ⟨w.heap.size + 1, 0, none⟩ = some v := by simp [World.cell?, hg]
      have hltg := heap_lt hg
      have HG := Lib.hid hg
      clear hg
      go_wp2
      go_ret
      have := HO.out
      rw [List.take_length] at this
      exact RetB.mk this hbw

def SmI (i : Imp) : Prop := SmT i.args ∧ i.ret.kind ≤ 255 ∧ i.ret.n ≤ 255
theorem impB_len {i : Imp} (h : SmI i) : (impB i).length ≤ 220 := by
  have := tysB_len h.1
  have := putTy_len i.ret h.2
  simp only [impB, List.length_append]; omega
set_option maxHeartbeats 3200000 in
theorem moduleImports (m : Mod) (h : ModH) (w : World) (hm : ModAt w m h) (hn : m.imports.length ≤ 1000) (hs : ∀ i ∈ m.imports, SmI i) :
    Calls Tryd.prog 78 #[m.v h] w (RetB w (impsB m)) := by
  unfold impsB
  obtain ⟨recs, funcs, imports, ints, texts⟩ := m
  obtain ⟨A0, c0, A1, c1, A2, c2, A3, c3, A4, c4⟩ := h
  obtain ⟨r0, l0, r1, l1, r2, l2, r3, l3, r4, l4⟩ := hm
  simp only at r0 l0 r1 l1 r2 l2 r3 l3 r4 l4
  have R := Lib.hid r2
  clear r0 r1 r2 r3 r4 l0 l1 l2 l3 l4
  unfold Mod.v
  simp only at *
  have HS := Lib.hid hs
  clear hs
  have hvl := varB_len64 (v := imports.length) (by omega)
  go_enter Tryd.func78, Tryd.ntmps78
  go_wp2_with fail
  refine (writerCount (w.heap.size + 1) w.heap.size [] _ _ (by omega) (by omega) (by simp) (fun k => k < w.heap.size + 1) (Wr.init _ _)).mono ?_
  rintro e w1 ⟨rfl, HW1, hk1⟩
  rw [Int.toNat_natCast, List.nil_append] at HW1
  obtain ⟨hkc1, hkf1⟩ := kcell (w.heap.size + 1) hk1 (fun _ h => h)
  go_wp2_with fail
  go_loopw [16] (fun i W => ∃ k : Nat, k ≤ imports.length ∧ i = .int .i64 k ∧ Hid (Wr W w.heap.size (w.heap.size + 1) (fun k => k < w.heap.size + 1) (varB imports.length ++ ((imports.take k).map impB).flatten)) ∧ KB (fun k => k < w.heap.size + 1) w1 W) (fun i _ => imports.length - (intOf i).toNat)
  case atStart => exact ⟨0, Nat.zero_le _, rfl, by simpa using HW1, KB.refl _ _⟩
  case round =>
    obtain ⟨k, hk, rfl, HW2, hk2⟩ := hrel
    have hbw : Below w.heap.size w wr := (bAl2 w _ _).trans ((hk1.trans hk2).below (fun k h => Nat.lt_succ_of_lt h))
    by_cases hlt : k < imports.length
    · obtain ⟨ad, x, ⟨Ax, cx⟩, rfl, hx, ⟨hA, hA2⟩, hy⟩ := at_Imp R.out k hlt
      have HY := Lib.hid hy
      clear hy
      have hy0 := pw_cell_below hbw HY.out.1
      have hy1 := pw_cell_below hbw HY.out.2.1
      have hy2 := pw_cell_below hbw HY.out.2.2
      clear HY
      have HX := Lib.hid hx
      have HA := Lib.hid hA
      clear hx hA
      obtain ⟨hs0, hs1, hs2⟩ := HS.out x (List.mem_of_getElem? HX.out)
      have HS0 := Lib.hid hs0
      clear hs0
      have hlen := flat_take_len impB 220 imports k (fun x hx => impB_len (HS.out x hx))
      have hlen' : (varB imports.length ++ ((imports.take k).map impB).flatten).length ≤ 1000000 := by rw [List.length_append]; omega
      generalize hbs' : varB imports.length ++ ((imports.take k).map impB).flatten = bs' at *
      have HBS := Lib.hid hbs'
      clear hbs'
      have htl := tysB_len HS0.out
      have hpl : (putTy ⟨x.ret.kind, x.ret.n⟩).length ≤ 20 := putTy_len x.ret ⟨hs1, hs2⟩
      have hgw : w.heap.size + 1 < wr.heap.size := by obtain ⟨_, h1, _⟩ := HW2.out; exact heap_lt h1
      have HW2a := Lib.hid (HW2.out.alloc (.cells #[.slice Ax x.args.length cx, .int .i64 x.ret.kind, .int .i64 x.ret.n] 70))
      go_wp2_with fail
      refine (writerTypes (w.heap.size + 1) w.heap.size _ Ax cx x.args w _ HA.out (hbw.alloc hbw.size _) _ (fun k hk => .inl (Nat.lt_succ_of_lt hk)) (by have := HS0.out.1; omega) HS0.out.2 ?_ HW2a.out).mono ?_
      · omega
      rintro e w3 ⟨rfl, HW3, hk3⟩
      have hq0 := fun j => hk3.cell (b := wr.heap.size) j (.inr rfl)
      have hz3 := hk3.size
      simp at hz3
      generalize hbs2 : bs' ++ tysB x.args = bs2 at *
      have HBS2 := Lib.hid hbs2
      have hl2 : bs2.length ≤ 1000200 := by rw [← hbs2, List.length_append]; omega
      clear hbs2
      obtain ⟨v, hg, hO, hbs, hP, hv⟩ := HW3.out
      have HP := Lib.hid hP
      have HV := Lib.hid hv
      have HO := Lib.hid hO
      clear hP hv hO
      have hc : w3.cell? ⟨w.heap.size + 1, 0, none⟩ = some v := by simp [World.cell?, hg]
      have hltg := heap_lt hg
      have HG := Lib.hid hg
      clear hg
      go_wp2_with fail
      go_region_law (first
        | ((with_reducible refine gs_app (.tmp 28) (.tmp 31) rfl ?_); refine appNs (.tmp 28) (.tmp 31) w.heap.size v bs2 (putTy ⟨x.ret.kind, x.ret.n⟩) A1 (putTy ⟨x.ret.kind, x.ret.n⟩).length c1 ?c1 ?c2 ?c4 ?c5 rfl rfl rfl rfl ?_; (case c1 => exact HO.out.below hb1'); (case c2 => exact HO1.out.C); (case c4 => have := hb1'.size; omega); (case c5 => omega); intro v1 w2 HO2 hb2 hg2 hat2; obtain ⟨A3, c3, rfl, -, -⟩ := HO2.out.reads; have HG2 := Lib.hid (((hg2.block (w.heap.size + 1) (by have := hb1'.size; omega) (fun e => (HV.out _ e.symm).2.1 rfl)).trans (hb1'.block (w.heap.size + 1) (by omega))).trans HG.out); have hc2 : w2.cell? ⟨w.heap.size + 1, 0, none⟩ = some v := (by simp [World.cell?, HG2.out]); have hf2 : w2.frozen? ⟨w.heap.size + 1, 0, none⟩ = false := (by simp [World.frozen?, HG2.out]))
        | (go_simp; go_at_call 108; with_reducible refine (kindPut x.ret.kind x.ret.n _ (by omega) (by omega)).mono ?_; intro e w1 hr; obtain ⟨A1, c1, rfl, HO1, hb1⟩ := hr.open_; clear hr; have hb1' : Below w3.heap.size w3 w1 := blt ((Below.refl _ _).drew) hb1; have hc1 : w1.cell? ⟨w.heap.size + 1, 0, none⟩ = some v := pw_cell_below hb1' hc; dsimp only))
      all_goals
        go_wp2_with fail
        go_roundw
        case rel =>
          obtain ⟨r1, r2⟩ := Wr.stored hb1' HG2.out HO2.out List.length_append hbs HP.out HV.out hltg hg2 hat2
          refine ⟨k + 1, by omega, by go_num, Lib.hid ?_, (hk2.trans (KB.alloc _ (fun _ hk => by omega))).trans ((hk3.trans r2).mono (fun _ hk => .inl hk))⟩
          rw [take_succ_map impB imports k x HX.out, ← List.append_assoc, HBS.out, impB, ← List.append_assoc, HBS2.out]
          exact r1.mono (fun _ hk => .inl hk)
        case measure => simp [intOf]; omega
    · obtain rfl : k = imports.length := by omega
      obtain ⟨v, hg, hO, hbs, hP, hv⟩ := HW2.out
      have HP := Lib.hid hP
      have HV := Lib.hid hv
      have HO := Lib.hid hO
      clear hP hv hO
      have hc : wr.cell? ⟨w.heap.size + 1, 0, none⟩ = some v := by simp [World.cell?, hg]
      have hltg := heap_lt hg
      have HG := Lib.hid hg
      clear hg
      go_wp2
      go_ret
      have := HO.out
      rw [List.take_length] at this
      exact RetB.mk this hbw

theorem insPut_len (i : Ins) : (insPut i).length ≤ 21 := by
  by_cases h : instArgs i.op < 0 ∨ instMay i.a (decide (0 < instArgs i.op)) = false ∨ instMay i.b (decide (1 < instArgs i.op)) = false
  · rw [insPut, if_pos h]; simp
  · have e : insPut i = i.op :: ins2 i.a i.b (instArgs i.op).toNat := by rw [insPut, if_neg h]; rfl
    have h1 : instMay i.a (decide (0 < instArgs i.op)) = true := by simpa using fun q => h (.inr (.inl q))
    have h2 : instMay i.b (decide (1 < instArgs i.op)) = true := by simpa using fun q => h (.inr (.inr q))
    rw [e]
    have := ins2_len (instMay_bd h1).2 (instMay_bd h2).2 (instArgs i.op).toNat
    simp; omega
def SmF (f : Fn) : Prop := SmT f.args ∧ (f.ret.kind ≤ 255 ∧ f.ret.n ≤ 255) ∧ SmT f.locals ∧ f.code.length ≤ 100
theorem codeB_len {l : List Ins} (h : l.length ≤ 100) : (codeB l).length ≤ 2110 := by
  have h1 := varB_len64 (v := l.length) (by omega)
  have h2 := flat_len insPut 21 l (fun x _ => insPut_len x)
  simp only [codeB, List.length_append]; omega
theorem fnB_len {f : Fn} (h : SmF f) : (fnB f).length ≤ 3000 := by
  have := tysB_len h.1
  have := putTy_len f.ret h.2.1
  have := tysB_len h.2.2.1
  have := codeB_len h.2.2.2
  simp only [fnB, List.length_append]; omega
set_option maxHeartbeats 6400000 in
theorem moduleFunctions (m : Mod) (h : ModH) (w : World) (hm : ModAt w m h) (hn : m.funcs.length ≤ 1000) (hs : ∀ i ∈ m.funcs, SmF i) :
    Calls Tryd.prog 77 #[m.v h] w (RetB w (funcsB m)) := by
  unfold funcsB
  obtain ⟨recs, funcs, imports, ints, texts⟩ := m
  obtain ⟨A0, c0, A1, c1, A2, c2, A3, c3, A4, c4⟩ := h
  obtain ⟨r0, l0, r1, l1, r2, l2, r3, l3, r4, l4⟩ := hm
  simp only at r0 l0 r1 l1 r2 l2 r3 l3 r4 l4
  have R := Lib.hid r1
  clear r0 r1 r2 r3 r4 l0 l1 l2 l3 l4
  unfold Mod.v
  simp only at *
  have HS := Lib.hid hs
  clear hs
  have hvl := varB_len64 (v := funcs.length) (by omega)
  go_enter Tryd.func77, Tryd.ntmps77
  go_wp2_with fail
  refine (writerCount (w.heap.size + 1) w.heap.size [] _ _ (by omega) (by omega) (by simp) (fun k => k < w.heap.size + 1) (Wr.init _ _)).mono ?_
  rintro e w1 ⟨rfl, HW1, hk1⟩
  rw [Int.toNat_natCast, List.nil_append] at HW1
  obtain ⟨hkc1, hkf1⟩ := kcell (w.heap.size + 1) hk1 (fun _ h => h)
  go_wp2_with fail
  go_loopw [18] (fun i W => ∃ k : Nat, k ≤ funcs.length ∧ i = .int .i64 k ∧ Hid (Wr W w.heap.size (w.heap.size + 1) (fun k => k < w.heap.size + 1) (varB funcs.length ++ ((funcs.take k).map fnB).flatten)) ∧ KB (fun k => k < w.heap.size + 1) w1 W) (fun i _ => funcs.length - (intOf i).toNat)
  case atStart => exact ⟨0, Nat.zero_le _, rfl, by simpa using HW1, KB.refl _ _⟩
  case round =>
    obtain ⟨k, hk, rfl, HW2, hk2⟩ := hrel
    have hbw : Below w.heap.size w wr := (bAl2 w _ _).trans ((hk1.trans hk2).below (fun k h => Nat.lt_succ_of_lt h))
    by_cases hlt : k < funcs.length
    · obtain ⟨ad, x, ⟨Ax, cx, Ay, cy, Az, cz⟩, rfl, hx, ⟨hA, hA2, hB, hB2, hD, hD2⟩, hy⟩ := at_Fn R.out k hlt
      have HY := Lib.hid hy
      clear hy
      have hy0 := pw_cell_below hbw HY.out.1
      have hy1 := pw_cell_below hbw HY.out.2.1
      have hy2 := pw_cell_below hbw HY.out.2.2.1
      have hy3 := pw_cell_below hbw HY.out.2.2.2.1
      have hy4 := pw_cell_below hbw HY.out.2.2.2.2
      clear HY
      have HX := Lib.hid hx
      have HA := Lib.hid hA
      have HB := Lib.hid hB
      have HD := Lib.hid hD
      clear hx hA hB hD
      obtain ⟨hs0, ⟨hs1, hs2⟩, hs3, hs4⟩ := HS.out x (List.mem_of_getElem? HX.out)
      have HS0 := Lib.hid hs0
      have HS3 := Lib.hid hs3
      clear hs0 hs3
      have hlen := flat_take_len fnB 3000 funcs k (fun x hx => fnB_len (HS.out x hx))
      have hlen' : (varB funcs.length ++ ((funcs.take k).map fnB).flatten).length ≤ 4000000 := by rw [List.length_append]; omega
      generalize hbs' : varB funcs.length ++ ((funcs.take k).map fnB).flatten = bs' at *
      have HBS := Lib.hid hbs'
      clear hbs'
      have htl := tysB_len HS0.out
      have htl2 := tysB_len HS3.out
      have hpl : (putTy ⟨x.ret.kind, x.ret.n⟩).length ≤ 20 := putTy_len x.ret ⟨hs1, hs2⟩
      have hgw : w.heap.size + 1 < wr.heap.size := by obtain ⟨_, h1, _⟩ := HW2.out; exact heap_lt h1
      have HW2a := Lib.hid (HW2.out.alloc (.cells #[.slice Ax x.args.length cx, .int .i64 x.ret.kind, .int .i64 x.ret.n, .slice Ay x.locals.length cy, .slice Az x.code.length cz] 53))
      go_wp2_with fail
      refine (writerTypes (w.heap.size + 1) w.heap.size _ Ax cx x.args w _ HA.out (hbw.alloc hbw.size _) _ (fun k hk => .inl (Nat.lt_succ_of_lt hk)) (by have := HS0.out.1; omega) HS0.out.2 ?_ HW2a.out).mono ?_
      · omega
      rintro e w3 ⟨rfl, HW3, hk3⟩
      have hq0 := fun j => hk3.cell (b := wr.heap.size) j (.inr rfl)
      have hz3 := hk3.size
      simp at hz3
      generalize hbs2 : bs' ++ tysB x.args = bs2 at *
      have HBS2 := Lib.hid hbs2
      have hl2 : bs2.length ≤ 4000200 := by rw [← hbs2, List.length_append]; omega
      clear hbs2
      obtain ⟨v, hg, hO, hbs, hP, hv⟩ := HW3.out
      have HP := Lib.hid hP
      have HV := Lib.hid hv
      have HO := Lib.hid hO
      clear hP hv hO
      have hc : w3.cell? ⟨w.heap.size + 1, 0, none⟩ = some v := by simp [World.cell?, hg]
      have hltg := heap_lt hg
      have HG := Lib.hid hg
      clear hg
      go_wp2_with fail
      go_region_law (first
        | ((with_reducible refine gs_app (.tmp 30) (.tmp 33) rfl ?_); refine appNs (.tmp 30) (.tmp 33) w.heap.size v bs2 (putTy ⟨x.ret.kind, x.ret.n⟩) A1 (putTy ⟨x.ret.kind, x.ret.n⟩).length c1 ?c1 ?c2 ?c4 ?c5 rfl rfl rfl rfl ?_; (case c1 => exact HO.out.below hb1'); (case c2 => exact HO1.out.C); (case c4 => have := hb1'.size; omega); (case c5 => omega); intro v1 w2 HO2 hb2 hg2 hat2; obtain ⟨A3, c3, rfl, -, -⟩ := HO2.out.reads; have HG2 := Lib.hid (((hg2.block (w.heap.size + 1) (by have := hb1'.size; omega) (fun e => (HV.out _ e.symm).2.1 rfl)).trans (hb1'.block (w.heap.size + 1) (by omega))).trans HG.out); have hc2 : w2.cell? ⟨w.heap.size + 1, 0, none⟩ = some v := (by simp [World.cell?, HG2.out]); have hf2 : w2.frozen? ⟨w.heap.size + 1, 0, none⟩ = false := (by simp [World.frozen?, HG2.out]))
        | (go_simp; go_at_call 108; with_reducible refine (kindPut x.ret.kind x.ret.n _ (by omega) (by omega)).mono ?_; intro e w1 hr; obtain ⟨A1, c1, rfl, HO1, hb1⟩ := hr.open_; clear hr; have hb1' : Below w3.heap.size w3 w1 := blt ((Below.refl _ _).drew) hb1; have hc1 : w1.cell? ⟨w.heap.size + 1, 0, none⟩ = some v := pw_cell_below hb1' hc; dsimp only))
      all_goals
        obtain ⟨r1, r2⟩ := Wr.stored hb1' HG2.out HO2.out List.length_append hbs HP.out HV.out hltg hg2 hat2
        have HW4 := Lib.hid r1
        have hk4 := hk3.trans r2
        clear r1 r2 hk3 hq0 HG2 hc2 hf2 hg2 hat2 HO2 HO1
        generalize hw4 : w2.setCell ⟨w.heap.size + 1, 0, none⟩ (.slice A3 (bs2.length + (putTy ⟨x.ret.kind, x.ret.n⟩).length) c3) = w4 at *
        clear hw4
        generalize hbs3 : bs2 ++ putTy ⟨x.ret.kind, x.ret.n⟩ = bs3 at *
        have HBS3 := Lib.hid hbs3
        have hl3 : bs3.length ≤ 4000300 := by rw [← hbs3, List.length_append]; omega
        clear hbs3
        have hq0 := fun j => hk4.cell (b := wr.heap.size) j (.inr rfl)
        have hz4 := hk4.size
        simp at hz4
        go_wp2_with fail
        have hb4 : Below w.heap.size w w4 := (hbw.alloc hbw.size _).trans (hk4.below (fun k hk => .inl (Nat.lt_succ_of_lt hk)))
        refine (writerTypes (w.heap.size + 1) w.heap.size _ Ay cy x.locals w _ HB.out hb4 _ (fun k hk => .inl (Nat.lt_succ_of_lt hk)) (by have := HS3.out.1; omega) HS3.out.2 (by omega) HW4.out).mono ?_
        rintro e w5 ⟨rfl, HW5, hk5⟩
        replace hk5 := hk4.trans hk5
        generalize hbs4 : bs3 ++ tysB x.locals = bs4 at *
        have HBS4 := Lib.hid hbs4
        have hl4 : bs4.length ≤ 4000500 := by rw [← hbs4, List.length_append]; omega
        clear hbs4 hq0 hk4 hb4 HW4 hz4
        have hq0 := fun j => hk5.cell (b := wr.heap.size) j (.inr rfl)
        have hz5 := hk5.size
        simp at hz5
        go_wp2_with fail
        refine (writerCount (w.heap.size + 1) w.heap.size _ _ _ (by omega) (by omega) (by omega) _ HW5.out).mono ?_
        rintro e w6 ⟨rfl, HW6, hk6⟩
        rw [Int.toNat_natCast] at HW6
        replace hk6 := hk5.trans hk6
        have hvl6 := varB_len64 (v := x.code.length) (by omega)
        generalize hbs5 : bs4 ++ varB x.code.length = bs5 at *
        have HBS5 := Lib.hid hbs5
        have hl5 : bs5.length ≤ 4000600 := by rw [← hbs5, List.length_append]; omega
        clear hbs5 hq0 hk5 HW5 hz5
        have hq0 := fun j => hk6.cell (b := wr.heap.size) j (.inr rfl)
        have hz6 := hk6.size
        simp at hz6
        go_wp2_with fail
        clear hq0
        obtain ⟨wo, rfl⟩ : ∃ wo : World, wo = wr := ⟨_, rfl⟩
        go_loopw [49] (fun i W => ∃ j : Nat, j ≤ x.code.length ∧ i = .int .i64 j ∧ Hid (Wr W w.heap.size (w.heap.size + 1) (fun k => k < w.heap.size + 1 ∨ k = wo.heap.size) (bs5 ++ ((x.code.take j).map insPut).flatten)) ∧ KB (fun k => k < w.heap.size + 1 ∨ k = wo.heap.size) w6 W) (fun i _ => x.code.length - (intOf i).toNat)
        case atStart => exact ⟨0, Nat.zero_le _, rfl, by simpa using HW6, KB.refl _ _⟩
        case round =>
          obtain ⟨j, hj, rfl, HW7, hk7⟩ := hrel
          have hk7' := hk7
          replace hk7 := hk6.trans hk7
          by_cases hjt : j < x.code.length
          · have hbj : Below w.heap.size w wr := (hbw.alloc hbw.size _).trans (hk7.below (fun k hk => .inl (Nat.lt_succ_of_lt hk)))
            obtain ⟨adj, y, rfl, hyx, hj0, hj1, hj2⟩ := at_Ins (Kd.C_below HD.out hbj) j hjt
            have HYX := Lib.hid hyx
            clear hyx
            have hlj := flat_take_len insPut 21 x.code j (fun x _ => insPut_len x)
            have hlj' : (bs5 ++ ((x.code.take j).map insPut).flatten).length ≤ 5000000 := by rw [List.length_append]; omega
            generalize hbs6 : bs5 ++ ((x.code.take j).map insPut).flatten = bs6 at *
            have HBS6 := Lib.hid hbs6
            clear hbs6
            have hpl2 : (insPut ⟨y.op, y.a, y.b⟩).length ≤ 21 := insPut_len _
            clear HG HP HV HO hc hltg hb1' hb1 hc1 hb2
            obtain ⟨v, hg, hO, hbs, hP, hv⟩ := HW7.out
            have HP := Lib.hid hP
            have HV := Lib.hid hv
            have HO := Lib.hid hO
            clear hP hv hO
            have hc : wr.cell? ⟨w.heap.size + 1, 0, none⟩ = some v := by simp [World.cell?, hg]
            have hca : ∀ o, (wr.alloc o).cell? ⟨w.heap.size + 1, 0, none⟩ = some v := fun o => pw_cell_below (bAl wr o) hc
            have hltg := heap_lt hg
            have HG := Lib.hid hg
            clear hg
            go_wp2_with fail
            go_region_law (first
              | ((with_reducible refine gs_app (.tmp 57) (.tmp 59) rfl ?_); refine appNs (.tmp 57) (.tmp 59) w.heap.size v bs6 (insPut ⟨y.op, y.a, y.b⟩) A1 (insPut ⟨y.op, y.a, y.b⟩).length c1 ?c1 ?c2 ?c4 ?c5 rfl rfl rfl rfl ?_; (case c1 => exact HO.out.below hb1'); (case c2 => exact HO1.out.C); (case c4 => have := hb1'.size; omega); (case c5 => omega); intro v1 w2 HO2 hb2 hg2 hat2; obtain ⟨A3, c3, rfl, -, -⟩ := HO2.out.reads; have HG2 := Lib.hid (((hg2.block (w.heap.size + 1) (by have := hb1'.size; omega) (fun e => (HV.out _ e.symm).2.1 rfl)).trans (hb1'.block (w.heap.size + 1) (by omega))).trans HG.out); have hc2 : w2.cell? ⟨w.heap.size + 1, 0, none⟩ = some v := (by simp [World.cell?, HG2.out]); have hf2 : w2.frozen? ⟨w.heap.size + 1, 0, none⟩ = false := (by simp [World.frozen?, HG2.out]))
              | (go_simp; go_at_call 109; with_reducible refine (instPut y.op y.a y.b _).mono ?_; intro e w1 hr; obtain ⟨A1, c1, rfl, HO1, hb1⟩ := hr.open_; clear hr; have hb1' : Below wr.heap.size wr w1 := blt ((bAl _ _).drew) hb1; have hc1 : w1.cell? ⟨w.heap.size + 1, 0, none⟩ = some v := pw_cell_below hb1' hc; dsimp only))
            all_goals
              go_wp2_with fail
              go_roundw
              case rel =>
                obtain ⟨r1, r2⟩ := Wr.stored hb1' HG2.out HO2.out List.length_append hbs HP.out HV.out hltg hg2 hat2
                refine ⟨j + 1, by omega, by go_num, Lib.hid ?_, hk7'.trans r2⟩
                rw [take_succ_map insPut x.code j y HYX.out, ← List.append_assoc, HBS6.out]
                exact r1
              case measure => simp [intOf]; omega
          · obtain rfl : j = x.code.length := by omega
            go_wp2_with fail
            go_roundw
            case rel =>
              refine ⟨k + 1, by omega, by go_num, Lib.hid ?_, (hk2.trans (KB.alloc _ (fun _ hk => by omega))).trans (hk7.mono (fun _ hk => .inl hk))⟩
              have := HW7.out
              rw [List.take_length, ← HBS5.out, ← HBS4.out, ← HBS3.out, ← HBS2.out, ← HBS.out] at this
              rw [take_succ_map fnB funcs k x HX.out, fnB, codeB]
              simp only [List.append_assoc] at this ⊢
              exact this.mono (fun _ hk => .inl hk)
            case measure => simp [intOf]; omega
    · obtain rfl : k = funcs.length := by omega
      obtain ⟨v, hg, hO, hbs, hP, hv⟩ := HW2.out
      have HP := Lib.hid hP
      have HV := Lib.hid hv
      have HO := Lib.hid hO
      clear hP hv hO
      have hc : wr.cell? ⟨w.heap.size + 1, 0, none⟩ = some v := by simp [World.cell?, hg]
      have hltg := heap_lt hg
      have HG := Lib.hid hg
      clear hg
      go_wp2
      go_ret
      have := HO.out
      rw [List.take_length] at this
      exact RetB.mk this hbw

/-- append(v, s...), s a string -/
theorem appS {ops : Array Oper} {rest : List Oper} {o : Oper} {a : Act} {Q : Exit → Act → World → Prop} {W : World} (s x : Operand) (base : Nat) (v : Value) (xs : List Int) (y : ByteArray)
    (HO : OB W base v xs) (hbase : base ≤ W.heap.size) (hl : xs.length + y.size ≤ 1000000000000)
    (hgd : o.guard = none) (ho : o.op = .call { callee := .builtin .append, args := #[s, x], argTypes := #[78, 9] })
    (hs : a.eval s = v) (hx : a.eval x = .string y)
    (h : ∀ v1 w1, Hid (OB w1 base v1 (xs ++ bytesOf y)) → Below base W w1 → W.grownBy w1 v.ownBlock → wpList Tryd.prog ops Q rest (a.put o.dst v1) w1) :
    wpList Tryd.prog ops Q (o :: rest) a W :=
  print_append_str base hgd s x 78 9 5 ho Tryd.underlying78 Tryd.underlying9 infoU8 v xs y hs hx (Kd.own_of_R HO) (Below.refl _ _) hbase (by omega)
    (fun v1 w1 h1 h2 h3 => h v1 w1 (Lib.hid (Kd.R_of_own (enc := Value.int .u8) (h1 := fun _ => rfl) h1 (fun _ _ => trivial))) h2 h3)
theorem Wr.stored2 {w w2 : World} {base g n : Nat} {P : Nat → Prop} {bs : List Int} {A : Option Addr} {c : Nat} {v : Value} (hg : w2.heap[g]? = some (.cells #[v] 136 (0, 0))) (hO : OB w2 base (.slice A bs.length c) bs) (hn : bs.length = n) (hs : base ≤ w.heap.size)
    (hP : ∀ k, P k → k < base ∧ k ≠ g) (hgb : g < base) (hb : Below base w w2) :
    Wr (w2.setCell ⟨g, 0, none⟩ (.slice A n c)) base g P bs ∧ KB P w (w2.setCell ⟨g, 0, none⟩ (.slice A n c)) := by
  subst hn
  have hsz := hb.size
  have hv' : ∀ k, (Value.slice A bs.length c).ownBlock = some k → ¬ P k ∧ k ≠ g := fun k hk => by
    have := hO.base k hk; exact ⟨fun hq => by have := hP k hq; omega, by omega⟩
  constructor
  · refine ⟨_, ?_, hO.far (fun k hk => (hv' k hk).2) _ _, by simp [World.setCell]; omega, fun k hk => ⟨by have := hP k hk; simp [World.setCell]; omega, (hP k hk).2⟩, fun k hk => ⟨(hv' k hk).1, (hv' k hk).2, by have := hO.lt k hk; simpa [World.setCell] using this⟩⟩
    simp [World.setCell, Array.getElem?_modify, hg]
  · exact (KB.of_below hb (fun k hk => (hP k hk).1)).trans (KB.set (fun h => (hP g h).2 rfl) _)
theorem Wr.init2 (w : World) (o : Obj) : Wr ((w.alloc o).alloc (.cells #[.slice none 0 0] 136)) (w.heap.size + 2) (w.heap.size + 1) (fun k => k < w.heap.size + 1) [] := by
  refine ⟨_, ?_, OB.nil _ _, by simp, fun k hk => by simp; omega, fun k hk => by simp [Value.ownBlock] at hk⟩
  rw [show w.heap.size + 1 = (w.alloc o).heap.size by simp]; exact heap_alloc_new _ _
set_option maxHeartbeats 3200000 in
theorem moduleTexts (m : Mod) (h : ModH) (w : World) (hm : ModAt w m h) (hn : m.texts.length ≤ 1000) (hs : ∀ s ∈ m.texts, s.size ≤ 32) :
    Calls Tryd.prog 80 #[m.v h] w (RetB w (textsB m)) := by
  unfold textsB
  obtain ⟨recs, funcs, imports, ints, texts⟩ := m
  obtain ⟨A0, c0, A1, c1, A2, c2, A3, c3, A4, c4⟩ := h
  obtain ⟨r0, l0, r1, l1, r2, l2, r3, l3, r4, l4⟩ := hm
  simp only at r0 l0 r1 l1 r2 l2 r3 l3 r4 l4
  have R := Lib.hid r4
  clear r0 r1 r2 r3 r4 l0 l1 l2 l3 l4
  unfold Mod.v
  simp only at *
  have HS := Lib.hid hs
  clear hs
  have hvl := varB_len64 (v := texts.length) (by omega)
  go_enter Tryd.func80, Tryd.ntmps80
  go_wp2_with fail
  refine (writerCount (w.heap.size + 1) (w.heap.size + 2) [] _ _ (by omega) (by omega) (by simp) (fun k => k < w.heap.size + 1) (Wr.init2 _ _)).mono ?_
  rintro e w1 ⟨rfl, HW1, hk1⟩
  rw [Int.toNat_natCast, List.nil_append] at HW1
  obtain ⟨hkc1, hkf1⟩ := kcell (w.heap.size + 1) hk1 (fun _ h => h)
  go_wp2_with fail
  go_loopw [16] (fun i W => ∃ k : Nat, k ≤ texts.length ∧ i = .int .i64 k ∧ Hid (Wr W (w.heap.size + 2) (w.heap.size + 1) (fun k => k < w.heap.size + 1) (varB texts.length ++ ((texts.take k).map strB).flatten)) ∧ KB (fun k => k < w.heap.size + 1) w1 W) (fun i _ => texts.length - (intOf i).toNat)
  case atStart => exact ⟨0, Nat.zero_le _, rfl, by simpa using HW1, KB.refl _ _⟩
  case round =>
    obtain ⟨k, hk, rfl, HW2, hk2⟩ := hrel
    have hbw : Below w.heap.size w wr := (bAl2 w _ _).trans ((hk1.trans hk2).below (fun k h => Nat.lt_succ_of_lt h))
    by_cases hlt : k < texts.length
    · obtain ⟨ad, x, rfl, hx, hy0⟩ := at_str (Kd.C_below R.out hbw) k hlt
      have HX := Lib.hid hx
      clear hx
      have hs1 := HS.out x (List.mem_of_getElem? HX.out)
      have hsl : ∀ s ∈ texts, (strB s).length ≤ 50 := fun s h => by
        have := varB_len64 (v := s.size) (by have := HS.out s h; omega)
        have := HS.out s h
        simp only [strB, List.length_append, bytesOf_length]; omega
      have hlen := flat_take_len strB 50 texts k hsl
      clear hsl
      have hlen' : (varB texts.length ++ ((texts.take k).map strB).flatten).length ≤ 1000000 := by rw [List.length_append]; omega
      generalize hbs' : varB texts.length ++ ((texts.take k).map strB).flatten = bs' at *
      have HBS := Lib.hid hbs'
      clear hbs'
      have hvx := varB_len64 (v := x.size) (by omega)
      go_wp2_with fail
      refine (writerCount (w.heap.size + 1) (w.heap.size + 2) _ _ _ (by omega) (by omega) (by omega) _ HW2.out).mono ?_
      rintro e w3 ⟨rfl, HW3, hk3⟩
      rw [Int.toNat_natCast] at HW3
      generalize hbs2 : bs' ++ varB x.size = bs2 at *
      have HBS2 := Lib.hid hbs2
      have hl2 : bs2.length ≤ 1000200 := by rw [← hbs2, List.length_append]; omega
      clear hbs2
      obtain ⟨v, hg, hO, hbs, hP, hv⟩ := HW3.out
      have HO := Lib.hid hO
      clear hP hv hO
      have hc : w3.cell? ⟨w.heap.size + 1, 0, none⟩ = some v := by simp [World.cell?, hg]
      have HG := Lib.hid hg
      clear hg
      go_wp2_with ((with_reducible refine g_app (.tmp 28) (.tmp 29) rfl ?_); refine appS (.tmp 28) (.tmp 29) (w.heap.size + 2) v bs2 x ?c1 ?c3 ?c4 rfl rfl rfl rfl ?_; (case c1 => exact HO.out); (case c3 => exact hbs); (case c4 => omega); intro v1 w4 HO4 hb4 hg4; obtain ⟨A5, c5, rfl, -, -⟩ := HO4.out.reads; have HG4 := Lib.hid ((hb4.block (w.heap.size + 1) (by omega)).trans HG.out); have hc4 : w4.cell? ⟨w.heap.size + 1, 0, none⟩ = some v := (by simp [World.cell?, HG4.out]); have hf4 : w4.frozen? ⟨w.heap.size + 1, 0, none⟩ = false := (by simp [World.frozen?, HG4.out]))
      go_roundw
      case rel =>
        obtain ⟨r1, r2⟩ := Wr.stored2 (P := fun k => k < w.heap.size + 1) HG4.out HO4.out List.length_append hbs (fun k hk => by omega) (by omega) hb4
        refine ⟨k + 1, by omega, by go_num, Lib.hid ?_, (hk2.trans hk3).trans r2⟩
        rw [take_succ_map strB texts k x HX.out, ← List.append_assoc, HBS.out, strB, ← List.append_assoc, HBS2.out]
        exact r1
      case measure => simp [intOf]; omega
    · obtain rfl : k = texts.length := by omega
      obtain ⟨v, hg, hO, hbs, hP, hv⟩ := HW2.out
      have HP := Lib.hid hP
      have HV := Lib.hid hv
      have HO := Lib.hid hO
      clear hP hv hO
      have hc : wr.cell? ⟨w.heap.size + 1, 0, none⟩ = some v := by simp [World.cell?, hg]
      have hltg := heap_lt hg
      have HG := Lib.hid hg
      clear hg
      go_wp2
      go_ret
      have := HO.out
      rw [List.take_length] at this
      exact RetB.mk (this.lower (by omega)) hbw
end Go.Proofs.YtgcokdcdpdndjaaDoor
