/- pack.Join, module.Encode. -/
import Derived.Test.YtgcokdcdpdndjaaDoorParts
namespace Go.Proofs.YtgcokdcdpdndjaaDoor
open Go.RowKit Go.Proofs.YtgcokdcdpdndjaaDoorW.PrintWords
set_option linter.unusedVariables false
set_option linter.unusedSimpArgs false

def kB : Kd (List Int) := Kd.slice 5 (Kd.int .u8)
theorem at_B {w : World} {A : Option Addr} {n : Nat} {xs : List (List Int)} (hC : Kd.C kB w A n xs) (k : Nat) (hk : k < n) :
    ∃ ad x A0 c0, A = some ad ∧ xs[k]? = some x ∧ Kd.C (Kd.int .u8) w A0 x.length x ∧ x.length ≤ c0 ∧ w.cell? (ad.add k) = some (.slice A0 x.length c0) := by
  obtain ⟨ad, x, c, e, hx, hK, hc0⟩ := C_at hC k hk
  have hc : ∀ j u, c[j]? = some u → w.cell? (ad.add (k * 1 + j)) = some u := hc0
  obtain ⟨A0, c0, rfl, l0, g0⟩ := hK
  exact ⟨ad, x, A0, c0, e, hx, g0, l0, by have hq := hc 0 _ rfl; rwa [Nat.mul_one, Nat.add_zero] at hq⟩
theorem C_lits (W : World) (T : TypeId) (l : List (List Int)) (cs : List Value) (hlen : l.length ≤ 9223372036854775807) (h : ∀ (j : Nat) (b : List Int), l[j]? = some b → ∃ A c, cs[j]? = some (Value.slice A b.length c) ∧ b.length ≤ c ∧ Kd.C (Kd.int .u8) W A b.length b) :
    Kd.C kB (W.alloc (.cells cs.toArray T)) (some ⟨W.heap.size, 0, none⟩) l.length l := by
  refine ⟨rfl, hlen, fun _ => ⟨_, rfl, fun j p hp => ?_⟩⟩
  obtain ⟨A, c, hcs, hle, hC⟩ := h j p hp
  refine ⟨[.slice A p.length c], rfl, ⟨A, c, rfl, hle, Kd.C_below hC (bAl _ _)⟩, fun i u hi => ?_⟩
  obtain rfl : i = 0 := by rcases i with _ | i; · rfl
                           · simp at hi
  simp at hi
  subst hi
  rw [add_plain, World.cell?_alloc_at _ _ _ _ rfl]
  simpa [kB, Kd.slice] using hcs
def joinB (l : List (List Int)) : List Int := varB l.length ++ (l.map fun p => varB p.length ++ p).flatten

set_option maxHeartbeats 1600000 in
theorem packJoin (A : Option Addr) (c : Nat) (l : List (List Int)) (w : World) (hC : Kd.C kB w A l.length l) (hn : l.length ≤ 100) (hs : ∀ p ∈ l, p.length ≤ 100000000) :
    Calls Tryd.prog 75 #[.slice A l.length c] w (RetB w (joinB l)) := by
  have HC := Lib.hid hC
  have HS := Lib.hid hs
  clear hC hs
  have hvl := varB_len64 (v := l.length) (by omega)
  unfold joinB
  go_enter Tryd.func75, Tryd.ntmps75
  go_wp2_with fail
  with_reducible refine (numVar (l.length : Int) _ (by omega) (by omega)).mono ?_
  intro e w1 hr
  obtain ⟨A1, c1, rfl, HO1, hb1⟩ := hr.open_
  clear hr
  rw [Int.toNat_natCast] at HO1 ⊢
  go_wp2_with fail
  go_loopw [3, 12] (fun v i W => ∃ k : Nat, k ≤ l.length ∧ i = .int .i64 k ∧ Hid (OB W w.heap.size v (varB l.length ++ ((l.take k).map fun p => varB p.length ++ p).flatten)) ∧ Below w.heap.size w W) (fun _ i _ => l.length - (intOf i).toNat)
  case atStart => exact ⟨0, Nat.zero_le _, rfl, by simpa using HO1, hb1⟩
  case round =>
    obtain ⟨k, hk, rfl, HO, HB⟩ := hrel
    by_cases hlt : k < l.length
    · obtain ⟨ad, x, Ax, cx, rfl, hx, hA, hA2, hy⟩ := at_B HC.out k hlt
      have hy0 := pw_cell_below HB hy
      clear hy
      have HX := Lib.hid hx
      have HA := Lib.hid hA
      clear hx hA
      have hxl := HS.out x (List.mem_of_getElem? HX.out)
      have hvx := varB_len64 (v := x.length) (by omega)
      have hlen := flat_take_len (fun p : List Int => varB p.length ++ p) 100000010 l k (fun p hp => by
        have := varB_len64 (v := p.length) (by have := HS.out p hp; omega)
        have := HS.out p hp
        simp only [List.length_append]; omega)
      have hlen' : (varB l.length ++ ((l.take k).map fun p => varB p.length ++ p).flatten).length ≤ 20000000000 := by rw [List.length_append]; omega
      generalize hbs' : varB l.length ++ ((l.take k).map fun p => varB p.length ++ p).flatten = bs' at *
      have HBS := Lib.hid hbs'
      clear hbs'
      go_wp2_with fail
      with_reducible refine (numVar (x.length : Int) _ (by omega) (by omega)).mono ?_
      intro e w2 hr
      obtain ⟨A2, c2, rfl, HO2, hb2⟩ := hr.open_
      clear hr
      rw [Int.toNat_natCast] at HO2 ⊢
      have hz2 := hb2.size
      have hzB := HB.size
      go_wp2_with (first | ((with_reducible refine g_app (.tmp 16) (.tmp 20) rfl ?_); refine appN (.tmp 16) (.tmp 20) w.heap.size _ bs' (varB x.length) A2 (varB x.length).length c2 ?c1 ?c2 ?c3 ?c4 rfl rfl rfl rfl ?_; (case c1 => exact HO.out.below hb2); (case c2 => exact HO2.out.C); (case c3 => omega); (case c4 => omega); intro v1 w3 HO3 hb3 hg3 hat3; have hz3 := hb3.size) | ((with_reducible refine g_app (.tmp 22) (.tmp 23) rfl ?_); refine appN (.tmp 22) (.tmp 23) w.heap.size _ (bs' ++ varB x.length) x Ax x.length cx ?c1 ?c2 ?c3 ?c4 rfl rfl rfl rfl ?_; (case c1 => exact HO3.out); (case c2 => exact Kd.C_below HA.out ((HB.trans (hb2.mono hzB)).trans hb3)); (case c3 => omega); (case c4 => rw [List.length_append]; omega); intro v2 w4 HO4 hb4 hg4 hat4))
      go_roundw
      case rel =>
        refine ⟨k + 1, by omega, by go_num, Lib.hid ?_, ((HB.trans (hb2.mono hzB)).trans hb3).trans hb4⟩
        rw [take_succ_map (fun p : List Int => varB p.length ++ p) l k x HX.out, ← List.append_assoc, HBS.out, ← List.append_assoc]
        exact HO4.out
      case measure => simp [intOf]; omega
    · obtain rfl : k = l.length := by omega
      go_wp2
      go_ret
      have := HO.out
      rw [List.take_length] at this
      exact RetB.mk this HB

/-- the numbers of a module are numbers -/
def ModOk (m : Mod) : Prop := ∀ x ∈ m.ints, 0 ≤ x ∧ x < 18446744073709551616
theorem goodTy_sm {t : Ty} {r : Int} (h : goodTy t r = true) (hr : r ≤ 200) : t.kind ≤ 255 ∧ t.n ≤ 255 := by
  unfold goodTy at h; split at h
  · simp at h; omega
  · split at h
    · simp at h; omega
    · split at h
      · simp at h; omega
      · simp at h
theorem goodL_sm {l : List Ty} {r most : Int} (h : goodL l r most = true) (hr : r ≤ 200) (hm : most ≤ 8) : SmT l := by
  simp [goodL] at h
  exact ⟨by omega, fun t ht => goodTy_sm (h.2 t ht) hr⟩
theorem fitFn_sm {f : Fn} {r : Int} (h : fitFn f r = true) (hr : r ≤ 200) : SmF f := by
  simp only [fitFn, Bool.and_eq_true, decide_eq_true_eq] at h
  obtain ⟨h1, h2, h3, h4, h5, h6⟩ := h
  exact ⟨goodL_sm h1 hr (by omega), goodTy_sm h2 hr, goodL_sm h3 hr (by omega), by omega⟩
theorem badImp_sm {i : Imp} {r : Int} (h : badImp i r = false) (hr : r ≤ 200) : SmI i := by
  simp [badImp] at h
  exact ⟨goodL_sm h.1 hr (by omega), goodTy_sm h.2 hr⟩
structure Sm (m : Mod) : Prop where
  n0 : m.recs.length ≤ 8
  n1 : m.funcs.length ≤ 8
  n2 : m.imports.length ≤ 8
  n3 : m.ints.length ≤ 16
  n4 : m.texts.length ≤ 16
  recs : ∀ l ∈ m.recs, SmT l
  funcs : ∀ f ∈ m.funcs, SmF f
  imports : ∀ i ∈ m.imports, SmI i
  texts : ∀ s ∈ m.texts, s.size ≤ 32
theorem fitMod_sm {m : Mod} (h : fitMod m = true) : Sm m := by
  simp only [fitMod, Bool.and_eq_true, decide_eq_true_eq, Bool.not_eq_true', List.any_eq_false] at h
  obtain ⟨h1, h2, h3, h4, h5, h6, h7, h8, h9, h10⟩ := h
  refine ⟨h1, h4, h6, h8, h9, fun l hl => goodL_sm (by simpa using h2 l hl) (by omega) (by omega), fun f hf => fitFn_sm (by simpa using h5 f hf) (by omega), fun i hi => badImp_sm (by simpa using h7 i hi) (by omega), fun s hs => by simpa using h10 s hs⟩
def encB (m : Mod) : List Int := joinB [recsB m, funcsB m, impsB m, numsB m, textsB m]
def encE (m : Mod) : Int := if fitMod m then 0 else 2
theorem sm_lens {m : Mod} (h : Sm m) : (recsB m).length ≤ 100000 ∧ (funcsB m).length ≤ 100000 ∧ (impsB m).length ≤ 100000 ∧ (numsB m).length ≤ 100000 ∧ (textsB m).length ≤ 100000 := by
  have a0 := varB_len64 (v := m.recs.length) (by have := h.n0; omega)
  have a1 := varB_len64 (v := m.funcs.length) (by have := h.n1; omega)
  have a2 := varB_len64 (v := m.imports.length) (by have := h.n2; omega)
  have a3 := varB_len64 (v := m.ints.length) (by have := h.n3; omega)
  have a4 := varB_len64 (v := m.texts.length) (by have := h.n4; omega)
  have b0 := flat_len tysB 200 m.recs (fun x hx => tysB_len (h.recs x hx))
  have b1 := flat_len fnB 3000 m.funcs (fun x hx => fnB_len (h.funcs x hx))
  have b2 := flat_len impB 220 m.imports (fun x hx => impB_len (h.imports x hx))
  have b3 := flat_len fix8 8 m.ints (fun x hx => by simp [fix8, fixB_len])
  have b4 := flat_len strB 50 m.texts (fun s hs => by
    have := varB_len64 (v := s.size) (by have := h.texts s hs; omega)
    have := h.texts s hs
    simp only [strB, List.length_append, bytesOf_length]; omega)
  have := h.n0
  have := h.n1
  have := h.n2
  have := h.n3
  have := h.n4
  simp only [recsB, funcsB, impsB, numsB, textsB, List.length_append]
  refine ⟨?_, ?_, ?_, ?_, ?_⟩ <;> omega

theorem lit1 {W : World} {base : Nat} {A : Option Addr} {bs : List Int} {c : Nat} (h : OB W base (.slice A bs.length c) bs) : bs.length ≤ c ∧ Kd.C (Kd.int .u8) W A bs.length bs := by
  obtain ⟨A', c', he, hl, hC⟩ := h.reads
  injection he with h1 h2 h3
  subst h1 h3
  exact ⟨hl, hC⟩
theorem lits5 {W : World} {n1 n2 n3 n4 n5 : Nat} {A1 A2 A3 A4 A5 : Option Addr} {b1 b2 b3 b4 b5 : List Int} {c1 c2 c3 c4 c5 : Nat} (h1 : OB W n1 (.slice A1 b1.length c1) b1) (h2 : OB W n2 (.slice A2 b2.length c2) b2) (h3 : OB W n3 (.slice A3 b3.length c3) b3) (h4 : OB W n4 (.slice A4 b4.length c4) b4) (h5 : OB W n5 (.slice A5 b5.length c5) b5) :
    ∀ (j : Nat) (b : List Int), [b1, b2, b3, b4, b5][j]? = some b → ∃ A c, [Value.slice A1 b1.length c1, .slice A2 b2.length c2, .slice A3 b3.length c3, .slice A4 b4.length c4, .slice A5 b5.length c5][j]? = some (Value.slice A b.length c) ∧ b.length ≤ c ∧ Kd.C (Kd.int .u8) W A b.length b := by
  intro j b hj
  rcases j with _ | _ | _ | _ | _ | j <;> simp at hj <;> subst hj
  · exact ⟨_, _, rfl, lit1 h1⟩
  · exact ⟨_, _, rfl, lit1 h2⟩
  · exact ⟨_, _, rfl, lit1 h3⟩
  · exact ⟨_, _, rfl, lit1 h4⟩
  · exact ⟨_, _, rfl, lit1 h5⟩

set_option maxHeartbeats 6400000 in
theorem moduleEncode (m : Mod) (h : ModH) (w : World) (hm : ModAt w m h) (hok : ModOk m) :
    Calls Tryd.prog 46 #[m.v h] w fun e w' => ∃ A n c, e = .returned (.tuple #[.slice A n c, .int .i64 (encE m)]) ∧ (fitMod m = true → Hid (OB w' w.heap.size (.slice A n c) (encB m))) ∧ (fitMod m = false → A = none ∧ n = 0 ∧ c = 0) ∧ Below w.heap.size w w' := by
  have HM := Lib.hid hm
  have HK := Lib.hid hok
  clear hm hok
  unfold Mod.v
  go_enter Tryd.func46, Tryd.ntmps46
  go_wp2_with fail
  refine (moduleFits m h _ (HM.out.below (bAl _ _))).mono ?_
  rintro e w1 ⟨rfl, hb1⟩
  obtain ⟨hc1, hf1, _⟩ := bcell hb1
  have B1 := blt (bAl _ _) hb1
  have hz1 : w.heap.size < w1.heap.size := by have := hb1.size; simp at this; omega
  cases g1 : fitMod m
  · go_wp2
    go_ret2
    exact ⟨none, 0, 0, by simp [encE, g1], fun q => absurd (g1.symm.trans q) (by simp), fun _ => ⟨rfl, rfl, rfl⟩, B1⟩
  have HG1 := Lib.hid g1
  clear g1
  have HE := Lib.hid (show encE m = 0 by simp [encE, HG1.out])
  have HSm := Lib.hid (fitMod_sm HG1.out)
  go_wp2_with fail
  have HL := Lib.hid (sm_lens HSm.out)
  go_region_held3 (fun w' => w'.cell? ⟨w.heap.size, 0, none⟩ = some (.slice h.A0 m.recs.length h.c0) ∧ w'.cell? ⟨w.heap.size, 1, none⟩ = some (.slice h.A1 m.funcs.length h.c1) ∧ w'.cell? ⟨w.heap.size, 2, none⟩ = some (.slice h.A2 m.imports.length h.c2) ∧ w'.cell? ⟨w.heap.size, 3, none⟩ = some (.slice h.A3 m.ints.length h.c3) ∧ w'.cell? ⟨w.heap.size, 4, none⟩ = some (.slice h.A4 m.texts.length h.c4) ∧ Below w.heap.size w w')
    ((refine ⟨?_, ?_, ?_, ?_, ?_, ?_⟩ <;> (first | go_keep | exact B1.drew | (refine pw_cell_below (by assumption) ?_; go_split_ands; assumption) | (refine blt ?_ (by assumption); go_split_ands; assumption) | (refine Below.alloc (by go_split_ands; assumption) (Below.size (by go_split_ands; assumption)) _))))
    ((first
      | (go_at_call 76; refine (moduleRecords m h _ (HM.out.below ?hm) (by have := HSm.out.n0; omega) HSm.out.recs).mono ?_; (case hm => go_split_ands; assumption); intro e v1 hr; obtain ⟨X1, d1, rfl, HO1, hv1⟩ := hr.open_; clear hr)
      | (go_at_call 77; refine (moduleFunctions m h _ (HM.out.below ?hm) (by have := HSm.out.n1; omega) HSm.out.funcs).mono ?_; (case hm => go_split_ands; assumption); intro e v2 hr; obtain ⟨X2, d2, rfl, HO2, hv2⟩ := hr.open_; clear hr)
      | (go_at_call 78; refine (moduleImports m h _ (HM.out.below ?hm) (by have := HSm.out.n2; omega) HSm.out.imports).mono ?_; (case hm => go_split_ands; assumption); intro e v3 hr; obtain ⟨X3, d3, rfl, HO3, hv3⟩ := hr.open_; clear hr)
      | (go_at_call 79; refine (moduleNumbers m h _ (HM.out.below ?hm) (by have := HSm.out.n3; omega) HK.out).mono ?_; (case hm => go_split_ands; assumption); intro e v4 hr; obtain ⟨X4, d4, rfl, HO4, hv4⟩ := hr.open_; clear hr)
      | (go_at_call 80; refine (moduleTexts m h _ (HM.out.below ?hm) (by have := HSm.out.n4; omega) HSm.out.texts).mono ?_; (case hm => go_split_ands; assumption); intro e v5 hr; obtain ⟨X5, d5, rfl, HO5, hv5⟩ := hr.open_; clear hr)
      | (go_at_call 75; refine (packJoin (some ⟨v5.heap.size, 0, none⟩) 5 [recsB m, funcsB m, impsB m, numsB m, textsB m] _ ?hC (by simp) ?hl).mono ?_; (case hC => exact C_lits v5 78 [recsB m, funcsB m, impsB m, numsB m, textsB m] [.slice X1 (recsB m).length d1, .slice X2 (funcsB m).length d2, .slice X3 (impsB m).length d3, .slice X4 (numsB m).length d4, .slice X5 (textsB m).length d5] (by simp) (lits5 (HO1.out.below (blt (blt (blt hv2 hv3) hv4) hv5)) (HO2.out.below (blt (blt hv3 hv4) hv5)) (HO3.out.below (blt hv4 hv5)) (HO4.out.below hv5) HO5.out)); (case hl => obtain ⟨q1, q2, q3, q4, q5⟩ := HL.out; intro p hp; simp at hp; rcases hp with rfl | rfl | rfl | rfl | rfl <;> omega); intro e v6 hr; obtain ⟨X6, d6, rfl, HO6, hv6⟩ := hr.open_; clear hr)))
  go_wp2
  go_ret2
  refine ⟨X6, _, d6, by rw [HE.out]; rfl, fun _ => Lib.hid (HO6.out.lower ?_), fun q => absurd (HG1.out.symm.trans q) (by simp), by go_split_ands; assumption⟩
  have := hv1.size
  have := hv2.size
  have := hv3.size
  have := hv4.size
  have := hv5.size
  simp at *
  omega
end Go.Proofs.YtgcokdcdpdndjaaDoor
