/- verify.Check. -/
import Derived.Test.YtgcokdcdpdndjaaDoorMain
namespace Go.Proofs.YtgcokdcdpdndjaaDoor
open Go.RowKit Go.Proofs.YtgcokdcdpdndjaaDoorW.PrintWords
set_option linter.unusedVariables false
set_option linter.unusedSimpArgs false

def chkL (m : Mod) : Nat → List Fn → Except (Nat × Nat) (List (List Shp))
  | _, [] => .ok []
  | n, fn :: l => match workF (stepN m fn) fn.code.length with
    | .error pc => .error (n, pc)
    | .ok Z => match chkL m (n + 1) l with
      | .error e => .error e
      | .ok Zs => .ok (Z :: Zs)
/-- the types of a module, or where there are none, and the error -/
def checkR (m : Mod) : Except (Nat × Nat × Int) (List (List Shp)) :=
  if sane m = 0 then (if mainB m = true then (match chkL m 0 m.funcs with | .error (n, pc) => .error (n, pc, 4) | .ok Zs => .ok Zs) else .error (0, 0, 1)) else .error (0, 0, sane m)
/-- what is behind the first maps -/
def chkAt (m : Mod) (k : Nat) (pre : List (List Shp)) : Except (Nat × Nat) (List (List Shp)) := match chkL m k (m.funcs.drop k) with | .error e => .error e | .ok Zs => .ok (pre ++ Zs)
theorem chkAt_zero (m : Mod) : chkAt m 0 [] = chkL m 0 m.funcs := by
  unfold chkAt
  rw [List.drop_zero]
  cases chkL m 0 m.funcs <;> rfl
theorem chkAt_step {m : Mod} {k : Nat} {pre : List (List Shp)} {fn : Fn} (hf : m.funcs[k]? = some fn) :
    chkAt m k pre = (match workF (stepN m fn) fn.code.length with | .error pc => .error (k, pc) | .ok Z => chkAt m (k + 1) (pre ++ [Z])) := by
  obtain ⟨hk, rfl⟩ := List.getElem?_eq_some_iff.1 hf
  unfold chkAt
  rw [List.drop_eq_getElem_cons hk]
  simp only [chkL]
  cases workF (stepN m m.funcs[k]) m.funcs[k].code.length with
  | error pc => rfl
  | ok Z =>
    simp only
    cases chkL m (k + 1) (m.funcs.drop (k + 1)) with
    | error e => rfl
    | ok Zs => simp
theorem chkAt_end {m : Mod} {pre : List (List Shp)} : chkAt m m.funcs.length pre = .ok pre := by
  unfold chkAt
  rw [List.drop_length]
  simp [chkL]
/-- a header of a row of shapes, as it is stored -/
def kHd : Kd (Nat × Nat) := Kd.scalar (fun v => .slice (some ⟨v.1, 0, none⟩) v.2 v.2) (fun _ => rfl)
@[reducible] def RH (w : World) (base : Nat) (v : Value) (hd : List (Nat × Nat)) : Prop := kHd.R 43 w base (fun _ => True) v hd
def NoP : Nat → Prop := fun _ => False
/-- the maps' rows behind their headers -/
def ShpsAt (W : World) (base : Nat) (hd : List (Nat × Nat)) (Zs : List (List Shp)) : Prop :=
  hd.length = Zs.length ∧ ∀ (j g n : Nat), hd[j]? = some (g, n) → ∃ Z L, Zs[j]? = some Z ∧ n = Z.length ∧ SS W base g Z L (fun _ => False)
theorem SS.lower {W : World} {base b2 gS : Nat} {X : List Shp} {L : List (Option Addr × Nat)} {prot : Nat → Prop} (h : SS W base gS X L prot) (hb : b2 ≤ base) : SS W b2 gS X L prot :=
  ⟨Nat.le_trans hb h.bg, h.len, h.hg, fun k s a hs ha => Kd.R_lower (h.row k s a hs ha) hb, h.sep, h.prt⟩
theorem ShpsAt.below {W W' : World} {base : Nat} {hd : List (Nat × Nat)} {Zs : List (List Shp)} (h : ShpsAt W base hd Zs) (hb : Below W.heap.size W W') : ShpsAt W' base hd Zs :=
  ⟨h.1, fun j g n hj => by obtain ⟨Z, L, h1, h2, h3⟩ := h.2 j g n hj; exact ⟨Z, L, h1, h2, h3.below hb⟩⟩
/-- the row of headers has grown -/
theorem ShpsAt.grown {W W' : World} {base : Nat} {hd : List (Nat × Nat)} {Zs : List (List Shp)} {v : Value} (h : ShpsAt W base hd Zs) (hg : W.grownBy W' v.ownBlock) (hv : ∀ k, v.ownBlock = some k → ∃ cells, W.heap[k]? = some (.cells cells 43 (0, 0))) : ShpsAt W' base hd Zs := by
  have ne : ∀ (k : Nat) (cells : Array Value) (T : TypeId), W.heap[k]? = some (.cells cells T (0, 0)) → T ≠ 43 → some k ≠ v.ownBlock := fun k cells T hk hT e => by
    obtain ⟨c, hc⟩ := hv k e.symm
    rw [hk] at hc; injection hc with hc; injection hc with _ hc; exact hT hc
  refine ⟨h.1, fun j g n hj => ?_⟩
  obtain ⟨Z, L, h1, h2, h3⟩ := h.2 j g n hj
  refine ⟨Z, L, h1, h2, h3.far (hg.block g (blk_lt h3.hg) (ne g _ _ h3.hg (by decide))) (fun k a b ha hb => ?_)⟩
  obtain ⟨s, hs⟩ : ∃ s, Z[k]? = some s := ⟨_, List.getElem?_eq_getElem (by rw [← h3.len]; exact (List.getElem?_eq_some_iff.1 ha).1)⟩
  obtain ⟨cells, hc⟩ := Kd.R_typed (h3.row k s a hs ha) b (by rw [ownBlock_slice]; exact hb)
  exact hg.block b (blk_lt hc) (ne b _ _ hc (by decide))
theorem ShpsAt.snoc {W : World} {base g : Nat} {hd : List (Nat × Nat)} {Zs : List (List Shp)} {Z : List Shp} {L : List (Option Addr × Nat)} (h : ShpsAt W base hd Zs) (hs : SS W base g Z L (fun _ => False)) : ShpsAt W base (hd ++ [(g, Z.length)]) (Zs ++ [Z]) := by
  refine ⟨by simp [h.1], fun j b n hj => ?_⟩
  rcases Nat.lt_or_ge j hd.length with hl | hl
  · rw [List.getElem?_append_left hl] at hj
    obtain ⟨Z', L', h1, h2, h3⟩ := h.2 j b n hj
    exact ⟨Z', L', by rw [List.getElem?_append_left (by rw [← h.1]; exact hl)]; exact h1, h2, h3⟩
  · rw [List.getElem?_append_right hl] at hj
    have h0 : j - hd.length = 0 := by
      rcases Nat.eq_zero_or_pos (j - hd.length) with h | h
      · exact h
      · rw [List.getElem?_eq_none (by simp; omega)] at hj; cases hj
    rw [h0] at hj
    simp only [List.getElem?_cons_zero, Option.some.injEq, Prod.mk.injEq] at hj
    obtain ⟨rfl, rfl⟩ := hj
    exact ⟨Z, L, by rw [List.getElem?_append_right (by rw [← h.1]; exact hl), ← h.1, h0]; rfl, rfl, hs⟩
def CheckRet (w : World) (r : Except (Nat × Nat × Int) (List (List Shp))) (e : Ending) (W : World) : Prop :=
  match r with
  | .error x => e = .returned (.tuple #[.slice none 0 0, .int .i64 x.1, .int .i64 x.2.1, .int .i64 x.2.2]) ∧ Below w.heap.size w W
  | .ok Zs => ∃ A c hd, e = .returned (.tuple #[.slice A Zs.length c, .int .i64 0, .int .i64 0, .int .i64 0]) ∧ Hid (RH W w.heap.size (.slice A Zs.length c) hd) ∧ Hid (ShpsAt W w.heap.size hd Zs) ∧ Below w.heap.size w W
theorem infoHd : (Tryd.prog.info? 43).map (fun i => (i.zero, i.size, i.bytes)) = some (some (.slice none 0 0), kHd.sz, 24) := by kernel_rfl
/-- maps = append(maps, c.shape) -/
theorem aMaps {ops : Array Oper} {rest : List Oper} {o : Oper} {a : Act} {Q : Exit → Act → World → Prop} {w0 W : World} {base g : Nat} {v : Value} {hd : List (Nat × Nat)} {Zs : List (List Shp)} {Z : List Shp} {L : List (Option Addr × Nat)}
    (s x : Operand) (z : Nat) (hz : z = W.heap.size) (hR : RH W base v hd) (hS : ShpsAt W base hd Zs) (hZ : SS W base g Z L (fun _ => False)) (hfr : Below base w0 W) (hb : base ≤ W.heap.size) (hn : hd.length ≤ 1000000)
    (hgd : o.guard = none) (ho : o.op = .call { callee := .builtin .append, args := #[s, x], argTypes := #[40, 40] })
    (hs : a.eval s = v) (hx : a.eval x = .slice (some ⟨z, 0, none⟩) 1 1)
    (h : ∀ A1 c1 w2, Hid (RH w2 base (.slice A1 (Zs.length + 1) c1) (hd ++ [(g, Z.length)])) → Hid (ShpsAt w2 base (hd ++ [(g, Z.length)]) (Zs ++ [Z])) → Hid (Below base w0 w2) → wpList Tryd.prog ops Q rest (a.put o.dst (.slice A1 (Zs.length + 1) c1)) w2) :
    wpList Tryd.prog ops Q (o :: rest) a (W.alloc (.cells #[.slice (some ⟨g, 0, none⟩) Z.length Z.length] 43)) := by
  subst hz
  refine Kd.R_append kHd (w0 := w0) (W := W) base hgd s x 40 43 (.slice none 0 0) 24 ho Tryd.underlying40 infoHd rfl (by decide) (by omega) v hd (g, Z.length) [.slice (some ⟨g, 0, none⟩) Z.length Z.length] (fun _ => True) (fun _ => False) hs hx rfl (fun _ hk => hk.elim) (fun _ _ => trivial) hR hfr hb (by omega) ?_
  intro v1 w1 h1 hf hg hat
  obtain ⟨A1, c1, rfl, _⟩ := Kd.R_reads h1
  have el : (hd ++ [(g, Z.length)]).length = Zs.length + 1 := by simp [hS.1]
  rw [el] at h1 ⊢
  exact h A1 c1 w1 (Lib.hid h1) (Lib.hid ((hS.snoc hZ).grown hg (Kd.R_typed hR))) (Lib.hid hf)
set_option maxRecDepth 100000 in
set_option maxHeartbeats 6400000 in
theorem verifyCheck (m : Mod) (h : ModH) (w : World) (hgl : Gl w) (hm : ModAt w m h) (hok : ModOk m) :
    Calls Tryd.prog 22 #[m.v h] w (CheckRet w (checkR m)) := by
  have S := Lib.hid (fun (W : World) (hb : Below w.heap.size w W) => saneCheck m h W (hm.below hb) hok)
  have M := Lib.hid (fun (W : World) (hb : Below w.heap.size w W) (hs : sane m = 0) => saneMain m h W (hm.below hb) hok hs)
  have F := Lib.hid (fun (f : Nat) (fn : Fn) (W : World) (hb : Below w.heap.size w W) (hs : sane m = 0) (hf : m.funcs[f]? = some fn) =>
    verifyFunction m h fn (w0 := W) (gc := W.heap.size) (f := f) (W.alloc (.cells #[.slice h.A0 m.recs.length h.c0, .slice h.A1 m.funcs.length h.c1, .slice h.A2 m.imports.length h.c2, .slice h.A3 m.ints.length h.c3, .slice h.A4 m.texts.length h.c4, .int .i64 f, .slice none 0 0, .slice none 0 0] 75)) (hgl.below hb) (hm.below hb) hs hf (bAl W _) (Nat.le_refl _) (heap_alloc_new W _))
  generalize hR : checkR m = R
  have HR := Lib.hid hR
  have hl1 := C_len hm.r1
  clear hR hgl hm hok
  obtain ⟨a0, cc0, a1, cc1, a2, cc2, a3, cc3, a4, cc4⟩ := h
  unfold Mod.v at *
  simp only at *
  go_enter Tryd.func22, Tryd.ntmps22
  go_wp2_with fail
  refine (S.out _ (bAl _ _)).mono ?_
  rintro e w1 ⟨rfl, hb1⟩
  obtain ⟨hc1, hf1, _⟩ := bcell hb1
  have hz1 : w.heap.size < w1.heap.size := by have := hb1.size; simp at this; omega
  have B1 := Lib.hid (blt (bAl _ _) hb1)
  clear hb1
  by_cases hs : sane m = 0
  rotate_left
  · have e1 : R = .error (0, 0, sane m) := by rw [← HR.out, checkR, if_neg hs]
    subst e1
    go_wp2_with fail
    refine bodyPost_ret (by simp [results, Tryd.results22, go_sem]; rfl) rfl ?_
    exact ⟨rfl, B1.out⟩
  have HS := Lib.hid hs
  rw [hs]
  clear hs
  go_wp2_with fail
  refine (M.out _ B1.out HS.out).mono ?_
  rintro e w2 ⟨rfl, hb2⟩
  obtain ⟨hc2, hf2, _⟩ := bcell hb2
  have hz2 : w.heap.size < w2.heap.size := by have := hb2.size; omega
  have B2 := Lib.hid (blt B1.out hb2)
  clear hb2
  cases hmb : mainB m with
  | false =>
    have e1 : R = .error (0, 0, 1) := by rw [← HR.out, checkR, if_pos HS.out, hmb]; simp
    subst e1
    go_wp2_with fail
    refine bodyPost_ret (by simp [results, Tryd.results22, go_sem]; rfl) rfl ?_
    exact ⟨rfl, B2.out⟩
  | true =>
    have e1 : R = (match chkAt m 0 [] with | .error (n, pc) => .error (n, pc, 4) | .ok Zs => .ok Zs) := by rw [← HR.out, checkR, if_pos HS.out, if_pos hmb, chkAt_zero]
    have HE := Lib.hid e1
    have hl8 : m.funcs.length ≤ 8 := by
      have := (sane_fit HS.out).1
      unfold fitMod at this
      simp only [Bool.and_eq_true, decide_eq_true_eq] at this
      exact this.2.2.2.1
    clear e1 hmb
    go_wp2_with fail
    go_loopw [24, 2] (fun i v W => ∃ (k : Nat) (pre : List (List Shp)) (hd : List (Nat × Nat)), k ≤ m.funcs.length ∧ pre.length = k ∧ i = .int .i64 k ∧ Hid (RH W w2.heap.size v hd) ∧ Hid (ShpsAt W w2.heap.size hd pre) ∧ Below w2.heap.size w2 W ∧ Hid (R = (match chkAt m k pre with | .error (n, pc) => .error (n, pc, 4) | .ok Zs => .ok Zs))) (fun i _ _ => m.funcs.length - (intOf i).toNat)
    case atStart => exact ⟨0, [], [], Nat.zero_le _, rfl, rfl, Lib.hid (Kd.R_nil _ _ _ _ _), Lib.hid ⟨rfl, fun j g n hj => by simp at hj⟩, Below.refl _ _, HE⟩
    case round =>
      obtain ⟨k, pre, hd, hk, hpre, rfl, HRH, HSH, hbW, HE⟩ := hrel
      obtain ⟨hc3, hf3, _⟩ := bcell hbW
      have hz3 : w.heap.size < wr.heap.size := by have := hbW.size; omega
      have hbw := blt B2.out hbW
      have HBW := Lib.hid hbW
      clear hbW
      obtain ⟨AM, cM, rfl, hcM, -⟩ := Kd.R_reads HRH.out
      have hhd : hd.length = k := HSH.out.1.trans hpre
      rw [hhd] at HRH hcM ⊢
      by_cases hlt : k < m.funcs.length
      · obtain ⟨fn, hfn⟩ : ∃ fn, m.funcs[k]? = some fn := ⟨_, List.getElem?_eq_getElem hlt⟩
        have hst := chkAt_step (pre := pre) hfn
        have HFN := Lib.hid (F.out k fn wr hbw HS.out hfn)
        have HST := Lib.hid hst
        have HBw := Lib.hid hbw
        clear hfn hst hbw
        generalize workF (stepN m fn) fn.code.length = rr at HFN HST
        go_wp2_with fail
        refine HFN.out.mono ?_
        rintro e w5 hr
        cases rr with
        | error pc =>
          obtain ⟨rfl, hb5⟩ := hr
          have e1 : R = .error (k, pc, 4) := by rw [HE.out, HST.out]
          subst e1
          have hb := blt HBw.out hb5
          go_wp2_with fail
          refine bodyPost_ret (by simp [results, Tryd.results22, go_sem]; rfl) rfl ?_
          exact ⟨rfl, hb⟩
        | ok Z =>
          obtain ⟨gS, L, vT, rfl, HC5⟩ := hr
          have hb5 := HC5.out.fr
          obtain ⟨hc5, hf5, _⟩ := bcell hb5
          have hz5 : w.heap.size < w5.heap.size := by have := hb5.size; omega
          obtain ⟨-, -, -, -, -, -, m6, -, mf⟩ := HC5.out.cells
          have HR5 := Lib.hid (Kd.R_below HRH.out hb5)
          have HS5 := Lib.hid (HSH.out.below hb5)
          have HF5 := Lib.hid (blt HBW.out hb5)
          have hb2 := HF5.out.size
          have HZ5 := Lib.hid (HC5.out.ss.lower (b2 := w2.heap.size) HBW.out.size)
          clear hb5
          go_wp2_with (first
            | ((with_reducible refine g_app (.tmp 41) (.tmp 46) rfl ?_); refine aMaps (.tmp 41) (.tmp 46) _ rfl HR5.out HS5.out HZ5.out HF5.out hb2 (by omega) rfl rfl rfl rfl ?_; intro A6 c6 w6 HR6 HS6 HF6)
            | fail)
          go_roundw
          case rel => exact ⟨k + 1, pre ++ [Z], _, by omega, by simp [hpre], by go_num, by rw [hpre] at HR6; exact HR6, HS6, HF6.out, Lib.hid (HE.out.trans (by rw [HST.out]))⟩
          case measure => simp [intOf]; omega
      · obtain rfl : k = m.funcs.length := by omega
        have e1 : R = .ok pre := by rw [HE.out, chkAt_end]
        subst e1
        go_wp2_with fail
        refine bodyPost_ret (by simp [results, Tryd.results22, go_sem]; rfl) rfl ?_
        have hsz := B2.out.size
        exact ⟨AM, cM, hd, by rw [hpre], by rw [hpre]; exact Lib.hid (Kd.R_lower HRH.out hsz), Lib.hid ⟨HSH.out.1, fun j g n hj => by obtain ⟨Z, L, h1, h2, h3⟩ := HSH.out.2 j g n hj; exact ⟨Z, L, h1, h2, h3.lower hsz⟩⟩, hbw⟩
end Go.Proofs.YtgcokdcdpdndjaaDoor
