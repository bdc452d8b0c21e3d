/- chrysalislaw08.FlowOwn: the walk. -/
import Derived.Test.YtgcokdcdpdndjaaDoorOwn08
import Derived.Test.YtgcokdcdpdndjaaDoorRaw
namespace Go.Proofs.YtgcokdcdpdndjaaDoor
open Go.RowKit Go.Proofs.YtgcokdcdpdndjaaDoorW.PrintWords
set_option linter.unusedVariables false
set_option linter.unusedSimpArgs false

def tyc (t : Ty) : List Value := [.int .i64 t.kind, .int .i64 t.n]
theorem reps_flat {α : Type} {R : α → List Value → Prop} {s : Nat} {f : α → List Value} (hf : ∀ x c, R x c → c = f x) : ∀ (S : List α) (inner : List Value), Reps R s S inner → inner = S.flatMap f
  | [], inner, h => by have := h.1; simp at this; simpa using this
  | x :: S, inner, h => by
    have h0 := hf _ _ (h.2 0 x rfl)
    simp only [Nat.zero_mul, List.drop_zero] at h0
    have hl := h.1
    simp only [List.length_cons, Nat.add_mul, Nat.one_mul] at hl
    have h1 := reps_flat hf S (inner.drop s) ⟨by rw [List.length_drop, hl, Nat.add_sub_cancel], fun j p hj => by
      have := h.2 (j + 1) p (by simpa using hj)
      rw [List.drop_drop, show s + j * s = (j + 1) * s by rw [Nat.add_mul]; omega]
      exact this⟩
    rw [List.flatMap_cons, ← h0, ← h1, List.take_append_drop]
theorem flat_reps {α : Type} {R : α → List Value → Prop} {s : Nat} {f : α → List Value} (hs : ∀ x, (f x).length = s) (hf : ∀ x, R x (f x)) : ∀ (S : List α), Reps R s S (S.flatMap f)
  | [] => Reps.none _ _
  | x :: S => by
    have ih := flat_reps hs hf S
    refine ⟨by rw [List.flatMap_cons, List.length_append, ih.1, hs, List.length_cons, Nat.add_mul]; omega, fun j p hj => ?_⟩
    rcases j with _ | j
    · simp at hj; subst hj
      rw [Nat.zero_mul, List.drop_zero, List.flatMap_cons, List.take_left' (hs x)]
      exact hf x
    · simp at hj
      rw [List.flatMap_cons, show (j + 1) * s = s + j * s by rw [Nat.add_mul]; omega, ← List.drop_drop, List.drop_left' (hs x)]
      exact ih.2 j p hj
theorem ot_own {W : World} {base : Nat} {v : Value} {S : List Ty} (h : OT W base v S) : W.ownsRow base 37 2 v S.length (S.flatMap tyc) := by
  obtain ⟨_, inner, ho, hr⟩ := h
  have := reps_flat (f := tyc) (fun x c hc => kTy_open (kTy.K_of_M hc)) S inner hr
  rw [← this]; exact ho
theorem own_ot {W : World} {base : Nat} {v : Value} {S : List Ty} (h : W.ownsRow base 37 2 v S.length (S.flatMap tyc)) : OT W base v S :=
  ⟨fun _ _ => trivial, _, h, flat_reps (f := tyc) (s := 2) (fun _ => rfl) (fun x => ⟨_, _, rfl, rfl, rfl⟩) S⟩
theorem flat_set : ∀ (S : List Ty) (k : Nat) (t : Ty) (q : Int), S[k]? = some t → (S.flatMap tyc).set (k * 2) (.int .i64 q) = (S.set k ⟨q, t.n⟩).flatMap tyc
  | [], k, t, q, h => by simp at h
  | x :: S, 0, t, q, h => by simp at h; subst h; rfl
  | x :: S, k + 1, t, q, h => by
    simp at h
    rw [List.flatMap_cons, List.set_append_right _ _ (by simp [tyc]; omega), List.set_cons_succ, List.flatMap_cons, ← flat_set S k t q h]
    congr 2
    simp [tyc]; omega
theorem ot_put {W : World} {base g n c : Nat} {S : List Ty} (h : OT W base (.slice (some ⟨g, 0, none⟩) n c) S) (k : Nat) (t : Ty) (hk : S[k]? = some t) (q : Int) : OT (W.setCell ⟨g, k * 2, none⟩ (.int .i64 q)) base (.slice (some ⟨g, 0, none⟩) n c) (S.set k ⟨q, t.n⟩) := by
  have hn : n = S.length := (Kd.R_reads' h).1
  subst hn
  refine own_ot ?_
  rw [List.length_set, ← flat_set S k t q hk]
  exact own_store_raw (ot_own h) (k * 2) _
theorem ot_cell {W : World} {base g n c : Nat} {S : List Ty} (h : OT W base (.slice (some ⟨g, 0, none⟩) n c) S) (k : Nat) (t : Ty) (hk : S[k]? = some t) : W.cell? ⟨g, k * 2, none⟩ = some (.int .i64 t.kind) ∧ W.frozen? ⟨g, k * 2, none⟩ = false := by
  have hn : n = S.length := (Kd.R_reads' h).1
  subst hn
  refine own_cell_raw (ot_own h) (k * 2) _ ?_
  have := flat_at tyc 2 (fun _ => rfl) S k t 0 (.int .i64 t.kind) hk rfl
  simpa using this
theorem ot_empty (W : World) : OT (W.alloc (.cells #[] 37)) W.heap.size (.slice (some ⟨W.heap.size, 0, none⟩) 0 0) [] :=
  own_ot (World.ownsRow_lit (base := W.heap.size) (e := 37) (size := 2) W #[] 0 (Nat.le_refl _) (by simp [maxLen]) (by simp))
def bump (t : Ty) : Ty := ⟨wrap64 (t.kind + 1), t.n⟩
def bumped (k : Nat) (S : List Ty) : List Ty := (S.take k).map bump ++ S.drop k
theorem bumped_get {S : List Ty} {k : Nat} {t : Ty} (h : S[k]? = some t) : (bumped k S)[k]? = some t := by
  obtain ⟨hk, rfl⟩ := List.getElem?_eq_some_iff.1 h
  unfold bumped
  rw [List.getElem?_append_right (by simp; omega)]
  simp; rw [show min k S.length = k by omega]; simp
theorem bumped_set {S : List Ty} {k : Nat} {t : Ty} (h : S[k]? = some t) : (bumped k S).set k (bump t) = bumped (k + 1) S := by
  obtain ⟨hk, rfl⟩ := List.getElem?_eq_some_iff.1 h
  unfold bumped
  rw [List.set_append_right _ _ (by simp; omega), List.take_succ_eq_append_getElem hk, List.map_append, List.append_assoc, List.drop_eq_getElem_cons hk]
  congr 1
  simp; rw [show k - min k S.length = 0 by omega, List.drop_eq_getElem_cons hk]; rfl
theorem bumped_len (k : Nat) (S : List Ty) : (bumped k S).length = S.length := by
  unfold bumped; simp; omega
def bumpi (k : Nat) (S : List Int) : List Int := (S.take k).map (fun t => wrap64 (t + 1)) ++ S.drop k
theorem bumpi_get {S : List Int} {k : Nat} {t : Int} (h : S[k]? = some t) : (bumpi k S)[k]? = some t := by
  obtain ⟨hk, rfl⟩ := List.getElem?_eq_some_iff.1 h
  unfold bumpi
  rw [List.getElem?_append_right (by simp; omega)]
  simp; rw [show min k S.length = k by omega]; simp
theorem bumpi_set {S : List Int} {k : Nat} {t : Int} (h : S[k]? = some t) : (bumpi k S).set k (wrap64 (t + 1)) = bumpi (k + 1) S := by
  obtain ⟨hk, rfl⟩ := List.getElem?_eq_some_iff.1 h
  unfold bumpi
  rw [List.set_append_right _ _ (by simp; omega), List.take_succ_eq_append_getElem hk, List.map_append, List.append_assoc, List.drop_eq_getElem_cons hk]
  congr 1
  simp; rw [show k - min k S.length = 0 by omega, List.drop_eq_getElem_cons hk]; rfl
theorem bumpi_len (k : Nat) (S : List Int) : (bumpi k S).length = S.length := by
  unfold bumpi; simp; omega
theorem bumped_all {S : List Ty} {k : Nat} {t : Ty} (h : S[k]? = some t) : (bumped S.length S)[k]? = some (bump t) := by
  unfold bumped
  rw [List.take_length, List.drop_length, List.append_nil, List.getElem?_map, h]; rfl
theorem bumpi_all {S : List Int} {k : Nat} {t : Int} (h : S[k]? = some t) : (bumpi S.length S)[k]? = some (wrap64 (t + 1)) := by
  unfold bumpi
  rw [List.take_length, List.drop_length, List.append_nil, List.getElem?_map, h]; rfl
theorem wrap_back {q : Int} (h : i64ok q) : IntKind.i64.wrap (wrap64 (q + 1) - 1) = q := by
  have := i64_bounds h
  rw [IntKind.wrap_i64]
  unfold wrap64; omega
theorem oi_cell {W : World} {base g n c : Nat} {S : List Int} (h : OI W base (.slice (some ⟨g, 0, none⟩) n c) S) (k : Nat) (t : Int) (hk : S[k]? = some t) : W.cell? ⟨g, k, none⟩ = some (.int .i64 t) ∧ W.frozen? ⟨g, k, none⟩ = false := by
  have hl := (List.getElem?_eq_some_iff.1 hk).1
  have hn : n = S.length := (Kd.R_reads' h).1
  have := Kd.R_celln (0 : Int) h (k : Int) (by omega) (by omega)
  rw [Int.toNat_natCast] at this
  have e : rdOf 0 S (k : Int) = t := by simp [rdOf, hk, List.getD_eq_getElem?_getD]
  rw [e] at this
  exact this
theorem oi_put {W : World} {base g n c : Nat} {S : List Int} (h : OI W base (.slice (some ⟨g, 0, none⟩) n c) S) (k : Nat) (q : Int) : OI (W.setCell ⟨g, k, none⟩ (.int .i64 q)) base (.slice (some ⟨g, 0, none⟩) n c) (S.set k q) := by
  have := Kd.R_putn h (k : Int) q
  rwa [Int.toNat_natCast] at this
theorem oi_far {W : World} {base : Nat} {v : Value} {S : List Int} {b2 g n c : Nat} {S2 : List Ty} (h : OI W base v S) (h2 : OT W b2 (.slice (some ⟨g, 0, none⟩) n c) S2) (j : Nat) (u : Value) : OI (W.setCell ⟨g, j, none⟩ u) base v S := by
  obtain ⟨cells, hc⟩ := Kd.R_typed h2 g (by simp [Value.ownBlock])
  exact Kd.R_set h hc (by intro q hq; simp [Kd.int, Kd.scalar] at hq; subst hq; decide) j u
theorem ot_far {W : World} {base : Nat} {v : Value} {S : List Ty} {b2 g n c : Nat} {S2 : List Int} (h : OT W base v S) (h2 : OI W b2 (.slice (some ⟨g, 0, none⟩) n c) S2) (j : Nat) (u : Value) : OT (W.setCell ⟨g, j, none⟩ u) base v S := by
  obtain ⟨cells, hc⟩ := Kd.R_typed h2 g (by simp [Value.ownBlock])
  exact Kd.R_set h hc (by intro q hq; simp [kTy, Kd.iso, Kd.pair, Kd.int, Kd.scalar] at hq; subst hq; decide) j u
theorem box5 {W : World} {g : Nat} {a b c d e : Value} {T : TypeId} {fr : Nat × Nat} (h : W.heap[g]? = some (.cells #[a, b, c, d, e] T fr)) :
    W.cell? ⟨g, 0, none⟩ = some a ∧ W.cell? ⟨g, 1, none⟩ = some b ∧ W.cell? ⟨g, 2, none⟩ = some c ∧ W.cell? ⟨g, 3, none⟩ = some d ∧ W.cell? ⟨g, 4, none⟩ = some e := by
  simp [World.cell?, h]
theorem ot_form {W : World} {base : Nat} {A : Option Addr} {n c : Nat} {S : List Ty} (h : OT W base (.slice A n c) S) (hp : 0 < S.length) : ∃ g, A = some ⟨g, 0, none⟩ ∧ base ≤ g ∧ g < W.heap.size := by
  obtain ⟨g, cap, e, h1, h2, _⟩ := Kd.R_form h hp
  injection e with e1 e2 e3
  exact ⟨g, e1, h1, h2⟩
theorem oi_form {W : World} {base : Nat} {A : Option Addr} {n c : Nat} {S : List Int} (h : OI W base (.slice A n c) S) (hp : 0 < S.length) : ∃ g, A = some ⟨g, 0, none⟩ ∧ base ≤ g ∧ g < W.heap.size := by
  obtain ⟨g, cap, e, h1, h2, _⟩ := Kd.R_form h hp
  injection e with e1 e2 e3
  exact ⟨g, e1, h1, h2⟩
set_option maxRecDepth 100000 in
set_option maxHeartbeats 6400000 in
theorem flowOwnLaw (m : Mod) (h : ModH) (f pc : Int) (A : Option Addr) (c : Nat) (st : List Ty) (w : World) (hgl : Gl w) (hm : ModAt w m h) (hb : ModBig m) (hC : kTy.C w A st.length st) (hsc : st.length ≤ c) (hst : TysOk st) :
    Calls Tryd.prog 3 #[m.v h, .int .i64 f, .int .i64 pc, .slice A st.length c] w fun e w' => e = .returned (.bool true) ∧ Below w.heap.size w w' := by
  have HM := Lib.hid hm
  have HG := Lib.hid hgl
  have HC := Lib.hid hC
  have HB := Lib.hid hb
  have HST := Lib.hid hst
  have hsl := C_len hC
  clear hm hgl hC hb hst
  have LI := Lib.hid (fun (W : World) (b : Below w.heap.size w W) => refLight m h W (HM.out.below b) HB.out)
  have FL := Lib.hid (fun (W : World) (b : Below w.heap.size w W) (hl : st.length ≤ 20) => flowFlow m h f pc A c st W (HG.out.below b) (HM.out.below b) HB.out.ok (Kd.C_below HC.out b) (by omega) hsc)
  have AN := Lib.hid (fun (W : World) (b : Below w.heap.size w W) => answers08 W (HG.out.below b))
  obtain ⟨hK, hI⟩ := flowR_ok (f := f) (pc := pc) HB.out HST.out.2
  have HK := Lib.hid hK
  have HI := Lib.hid hI
  clear hK hI
  generalize hR : flowR m f pc st = R at HK HI FL
  have HR := Lib.hid hR
  clear hR HR
  obtain ⟨r0, S, T⟩ := R
  simp only at HK HI
  generalize lightB m = lb at LI
  obtain ⟨q0, cc0, q1, cc1, q2, cc2, q3, cc3, q4, cc4⟩ := h
  unfold Mod.v at *
  simp only at *
  go_enter Tryd.func3, Tryd.ntmps3
  go_wp2_with fail
  refine (LI.out _ (bAl _ _)).mono ?_
  rintro e w1 ⟨rfl, hb1⟩
  obtain ⟨hc1, hf1, _⟩ := bcell hb1
  have hz1 : w.heap.size < w1.heap.size := by have := hb1.size; simp at this; omega
  have B1 := Lib.hid (blt (bAl _ _) hb1)
  have HBX := Lib.hid ((hb1.block w.heap.size (by simp)).trans (heap_alloc_new w _))
  clear hb1
  cases lb with
  | false =>
    go_wp2_with fail
    refine (AN.out _ B1.out).mono ?_
    rintro e w2 ⟨rfl, hb2⟩
    go_wp2_with fail
    go_ret
    exact ⟨rfl, blt B1.out hb2⟩
  | true =>
    by_cases hl20 : st.length ≤ 20
    rotate_left
    · go_wp2_with fail
      refine (AN.out _ B1.out).mono ?_
      rintro e w2 ⟨rfl, hb2⟩
      go_wp2_with fail
      go_ret
      exact ⟨rfl, blt B1.out hb2⟩
    · go_wp2_with (first | ((with_reducible refine g_app (.tmp 29) (.tmp 30) rfl ?_); refine appT _ _ w1.heap.size _ [] st A st.length c (ot_empty w1) (Kd.C_below HC.out (blt B1.out (bAl _ _))) (by simp) (by simp; omega) rfl rfl rfl rfl ?_; intro vi w2 HOi hb2 hg2 hat2; obtain ⟨Ai, ci, rfl, -, -⟩ := Kd.R_reads HOi.out; have hb2' : Below w1.heap.size w1 w2 := (bAl w1 _).trans hb2; obtain ⟨x0, x1, x2, x3, x4⟩ := box5 ((hb2'.block _ hz1).trans HBX.out)) | fail)
      have B2 := Lib.hid (blt B1.out hb2')
      have HBX2 := Lib.hid ((hb2'.block _ hz1).trans HBX.out)
      have hz2 : w.heap.size < w2.heap.size := Nat.lt_of_lt_of_le hz1 hb2'.size
      clear hb2 hg2 hat2 hb2' HBX hc1 hf1 x0 x1 x2 x3 x4
      refine (FL.out _ B2.out hl20).mono ?_
      rintro e w3 hr
      obtain ⟨As, cs, At, ct, rfl, HS, HT, hb3⟩ := hr
      simp only at HS HT ⊢
      have hSl : S.length ≤ 9223372036854775807 := (Kd.R_reads' HS.out).2.2.2.1
      have hTl : T.length ≤ 9223372036854775807 := (Kd.R_reads' HT.out).2.2.2.1
      have B3 := Lib.hid hb3
      clear hb3
      go_wp2_with fail
      go_loopw [13] (fun i W => ∃ k : Nat, k ≤ S.length ∧ i = .int .i64 k ∧ Hid (OT W w2.heap.size (.slice As S.length cs) (bumped k S)) ∧ Hid (OI W w2.heap.size (.slice At T.length ct) T) ∧ Below w2.heap.size w2 W) (fun i _ => S.length - (intOf i).toNat)
      case atStart => exact ⟨0, Nat.zero_le _, rfl, HS, HT, B3.out⟩
      case round =>
        obtain ⟨k, hk, rfl, HS1, HT1, hbW⟩ := hrel
        by_cases hlt : k < S.length
        · obtain ⟨t, ht⟩ : ∃ t, S[k]? = some t := ⟨_, List.getElem?_eq_getElem hlt⟩
          obtain ⟨g, rfl, hg1, hg2⟩ := ot_form HS1.out (by rw [bumped_len]; omega)
          obtain ⟨y0, y1⟩ := ot_cell HS1.out k t (bumped_get ht)
          have hkt := HK.out t (List.mem_of_getElem? ht)
          have HTT := Lib.hid ht
          clear ht
          go_wp2_with fail
          go_roundw
          case rel =>
            have hp := ot_put HS1.out k t (bumped_get HTT.out) (wrap64 (t.kind + 1))
            have e := bumped_set HTT.out
            simp only [bump] at e
            rw [e] at hp
            exact ⟨k + 1, by omega, by go_num, Lib.hid hp, Lib.hid (oi_far HT1.out HS1.out _ _), hbW.setCell hg1 _⟩
          case measure => simp [intOf]; omega
        · obtain rfl : k = S.length := by omega
          obtain ⟨wb, hwb⟩ : ∃ x : World, x = wr := ⟨_, rfl⟩
          go_wp2_with fail
          clear HS HT B3
          go_loopw [14] (fun i W => ∃ k : Nat, k ≤ T.length ∧ i = .int .i64 k ∧ Hid (OT W w2.heap.size (.slice As S.length cs) (bumped S.length S)) ∧ Hid (OI W w2.heap.size (.slice At T.length ct) (bumpi k T)) ∧ Below w2.heap.size w2 W) (fun i _ => T.length - (intOf i).toNat)
          case atStart => exact ⟨0, Nat.zero_le _, rfl, HS1, HT1, hbW⟩
          case round =>
            clear HS1 HT1 hbW hwb
            obtain ⟨k, hk, rfl, HS1, HT1, hbW⟩ := hrel
            by_cases hlt : k < T.length
            · obtain ⟨t, ht⟩ : ∃ t, T[k]? = some t := ⟨_, List.getElem?_eq_getElem hlt⟩
              obtain ⟨g, rfl, hg1, hg2⟩ := oi_form HT1.out (by rw [bumpi_len]; omega)
              obtain ⟨y0, y1⟩ := oi_cell HT1.out k t (bumpi_get ht)
              have HTT := Lib.hid ht
              clear ht
              go_wp2_with fail
              go_roundw
              case rel =>
                have hp := oi_put HT1.out k (wrap64 (t + 1))
                rw [bumpi_set HTT.out] at hp
                exact ⟨k + 1, by omega, by go_num, Lib.hid (ot_far HS1.out HT1.out _ _), Lib.hid hp, hbW.setCell hg1 _⟩
              case measure => simp [intOf]; omega
            · obtain rfl : k = T.length := by omega
              obtain ⟨x0, x1, x2, x3, x4⟩ := box5 ((hbW.block _ hz2).trans HBX2.out)
              have B4 := Lib.hid (blt B2.out hbW)
              have HI4 := Lib.hid (Kd.R_below HOi.out hbW)
              clear hbW
              go_wp2_with fail
              refine (FL.out _ B4.out hl20).mono ?_
              rintro e w5 hr
              obtain ⟨Bs, ds, Bt, dt, rfl, HS5, HT5, hb5⟩ := hr
              simp only at HS5 HT5 ⊢
              have HS6 := Lib.hid (Kd.R_below HS1.out hb5)
              have HT6 := Lib.hid (Kd.R_below HT1.out hb5)
              have HI6 := Lib.hid (Kd.R_below HI4.out hb5)
              have B5 := Lib.hid (blt B4.out hb5)
              clear HS1 HT1 HI4 hb5 x0 x1 x2 x3 x4
              go_wp2_with fail
              go_loopw [18] (fun i W => ∃ k : Nat, k ≤ S.length ∧ i = .int .i64 k ∧ Below w5.heap.size w5 W) (fun i _ => S.length - (intOf i).toNat)
              case atStart => exact ⟨0, Nat.zero_le _, rfl, Below.refl _ _⟩
              case round =>
                obtain ⟨k, hk, rfl, hbW⟩ := hrel
                by_cases hlt : k < S.length
                · obtain ⟨t, ht⟩ : ∃ t, S[k]? = some t := ⟨_, List.getElem?_eq_getElem hlt⟩
                  obtain ⟨gs, rfl, -, -⟩ := ot_form HS6.out (by rw [bumped_len]; omega)
                  obtain ⟨gt, rfl, -, -⟩ := ot_form HS5.out (by omega)
                  have y0 := pw_cell_below hbW (ot_cell HS6.out k (bump t) (bumped_all ht)).1
                  have y1 := pw_cell_below hbW (ot_cell HS5.out k t ht).1
                  simp only [bump] at y0
                  have e1 := wrap_back (HK.out t (List.mem_of_getElem? ht))
                  generalize wrap64 (t.kind + 1) = q at y0 e1
                  have hlt' : (k : Int) < (S.length : Int) := by omega
                  clear ht
                  go_wp2_with fail
                  go_quiet (fail)
                  go_wp2_with fail
                  go_roundw
                  case rel => exact ⟨k + 1, by omega, by go_num, pw_below_drewN hbW _⟩
                  case measure => simp [intOf]; omega
                · obtain rfl : k = S.length := by omega
                  have HS7 := Lib.hid (Kd.R_below HS6.out hbW)
                  have HT7 := Lib.hid (Kd.R_below HT6.out hbW)
                  have HU7 := Lib.hid (Kd.R_below HT5.out hbW)
                  have HI7 := Lib.hid (Kd.R_below HI6.out hbW)
                  have B7 := Lib.hid (blt B5.out hbW)
                  obtain ⟨w7, hw7⟩ : ∃ x : World, x = wr := ⟨_, rfl⟩
                  go_wp2_with fail
                  rw [← hw7] at HS7 HT7 HU7 HI7 B7 ⊢
                  clear hbW HS5 HT5 HS6 HT6 HI6 B5 hw7
                  go_loopw [19] (fun i W => ∃ k : Nat, k ≤ T.length ∧ i = .int .i64 k ∧ Below w7.heap.size w7 W) (fun i _ => T.length - (intOf i).toNat)
                  case atStart => exact ⟨0, Nat.zero_le _, rfl, Below.refl _ _⟩
                  case round =>
                    obtain ⟨k, hk, rfl, hbW⟩ := hrel
                    by_cases hlt : k < T.length
                    · obtain ⟨t, ht⟩ : ∃ t, T[k]? = some t := ⟨_, List.getElem?_eq_getElem hlt⟩
                      obtain ⟨gs, rfl, -, -⟩ := oi_form HT7.out (by rw [bumpi_len]; omega)
                      obtain ⟨gt, rfl, -, -⟩ := oi_form HU7.out (by omega)
                      have y0 := pw_cell_below hbW (oi_cell HT7.out k (wrap64 (t + 1)) (bumpi_all ht)).1
                      have y1 := pw_cell_below hbW (oi_cell HU7.out k t ht).1
                      have e1 := wrap_back (HI.out t (List.mem_of_getElem? ht))
                      generalize wrap64 (t + 1) = q at y0 e1
                      have hlt' : (k : Int) < (T.length : Int) := by omega
                      clear ht
                      go_wp2_with fail
                      go_quiet (fail)
                      go_wp2_with fail
                      go_roundw
                      case rel => exact ⟨k + 1, by omega, by go_num, pw_below_drewN hbW _⟩
                      case measure => simp [intOf]; omega
                    · obtain rfl : k = T.length := by omega
                      have B8 := Lib.hid (blt B7.out hbW)
                      go_wp2_with fail
                      refine (AN.out _ B8.out).mono ?_
                      rintro e w9 ⟨rfl, hb9⟩
                      have B9 := Lib.hid (blt B8.out hb9)
                      go_wp2_with fail
                      refine (refTypes _ _ _ _ st st _ (Kd.R_reads' (Kd.R_below (Kd.R_below HI7.out hbW) hb9)).2.2 (Kd.C_below HC.out B9.out)).mono ?_
                      rintro e w10 ⟨rfl, hb10⟩
                      rw [show decide (st = st) = true by simp]
                      go_wp2_with fail
                      go_ret
                      exact ⟨rfl, blt B9.out hb10⟩
end Go.Proofs.YtgcokdcdpdndjaaDoor
