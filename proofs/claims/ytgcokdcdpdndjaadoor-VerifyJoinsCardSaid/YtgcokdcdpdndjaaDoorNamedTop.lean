/- flow.named, whole; flow.free. -/
import Derived.Test.YtgcokdcdpdndjaaDoorNamed
namespace Go.Proofs.YtgcokdcdpdndjaaDoor
open Go.RowKit Go.Proofs.YtgcokdcdpdndjaaDoorW.PrintWords
set_option linter.unusedVariables false
set_option linter.unusedSimpArgs false

def rec0 (m : Mod) (a : Int) : List Ty := (m.recs[a.toNat]?).getD []
def named (m : Mod) (f : Fn) (i : Ins) : Rul :=
  if i.op = 0 then ⟨[], [⟨1, 0⟩]⟩ else if i.op = 1 then ⟨[], [⟨2, 0⟩]⟩
  else if i.op = 3 then ⟨[], [localTy f i.a]⟩ else if i.op = 4 then ⟨[localTy f i.a], []⟩
  else if i.op = 25 then ⟨((m.funcs[i.a.toNat]?).getD default).args, [((m.funcs[i.a.toNat]?).getD default).ret]⟩
  else if i.op = 26 then ⟨[f.ret], []⟩
  else if i.op = 27 then ⟨((m.imports[i.a.toNat]?).getD default).args, [((m.imports[i.a.toNat]?).getD default).ret]⟩
  else if i.op = 28 then ⟨rec0 m i.a, [⟨4, i.a⟩]⟩
  else if i.op = 29 then ⟨[⟨4, i.a⟩], [((rec0 m i.a)[i.b.toNat]?).getD default]⟩
  else ⟨[⟨4, i.a⟩, ((rec0 m i.a)[i.b.toNat]?).getD default], []⟩
/-- the instructions that name something -/
def isNamed (op : Int) : Prop := op = 0 ∨ op = 1 ∨ op = 3 ∨ op = 4 ∨ op = 25 ∨ op = 26 ∨ op = 27 ∨ op = 28 ∨ op = 29 ∨ op = 30
theorem flowNamed (m : Mod) (h : ModH) (f : Fn) (hf : FnH) (op a b : Int) (w : World) (hm : ModAt w m h) (hF : FnAt w f hf) (hgl : Gl w) (hal : f.args.length ≤ 100) (hll : f.locals.length ≤ 100) (ha : 0 ≤ a) (hb : 0 ≤ b) (hi : isNamed op) (hn : namesOk m f ⟨op, a, b⟩ = true) :
    Calls Tryd.prog 87 #[m.v h, f.v hf, .agg #[.int .i64 op, .int .i64 a, .int .i64 b]] w (RulRet w (named m f ⟨op, a, b⟩)) := by
  obtain ⟨a, rfl⟩ := Int.eq_ofNat_of_zero_le ha
  obtain ⟨b, rfl⟩ := Int.eq_ofNat_of_zero_le hb
  rcases hi with rfl | rfl | rfl | rfl | rfl | rfl | rfl | rfl | rfl | rfl
  · exact named0 m h f hf a b w hm hF hgl
  · exact named1 m h f hf a b w hm hF hgl
  · exact named3 m h f hf a b w hm hF hgl hal hll
  · exact named4 m h f hf a b w hm hF hgl hal hll
  · have hl : a < m.funcs.length := by simp [namesOk] at hn; omega
    have e : named m f ⟨25, a, b⟩ = ⟨m.funcs[a].args, [m.funcs[a].ret]⟩ := by simp [named, hl]
    rw [e]; exact named25 m h f hf a b _ w hm hF (List.getElem?_eq_getElem hl)
  · exact named26 m h f hf a b w hm hF
  · have hl : a < m.imports.length := by simp [namesOk] at hn; omega
    have e : named m f ⟨27, a, b⟩ = ⟨m.imports[a].args, [m.imports[a].ret]⟩ := by simp [named, hl]
    rw [e]; exact named27 m h f hf a b _ w hm hF (List.getElem?_eq_getElem hl)
  · have hl : a < m.recs.length := by simp [namesOk] at hn; omega
    have e : named m f ⟨28, a, b⟩ = ⟨m.recs[a], [⟨4, a⟩]⟩ := by simp [named, rec0, hl]
    rw [e]; exact named28 m h f hf a b _ w hm hF (List.getElem?_eq_getElem hl)
  · have hl : a < m.recs.length := by simp [namesOk] at hn; omega
    have hl2 : b < m.recs[a].length := by simp [namesOk, hl] at hn; omega
    have e : named m f ⟨29, a, b⟩ = ⟨[⟨4, a⟩], [m.recs[a][b]]⟩ := by simp [named, rec0, hl, hl2]
    rw [e]; exact named29 m h f hf a b _ _ w hm hF (List.getElem?_eq_getElem hl) (List.getElem?_eq_getElem hl2)
  · have hl : a < m.recs.length := by simp [namesOk] at hn; omega
    have hl2 : b < m.recs[a].length := by simp [namesOk, hl] at hn; omega
    have e : named m f ⟨30, a, b⟩ = ⟨[⟨4, a⟩, m.recs[a][b]], []⟩ := by simp [named, rec0, hl, hl2]
    rw [e]; exact named30 m h f hf a b _ _ w hm hF (List.getElem?_eq_getElem hl) (List.getElem?_eq_getElem hl2)
end Go.Proofs.YtgcokdcdpdndjaaDoor
