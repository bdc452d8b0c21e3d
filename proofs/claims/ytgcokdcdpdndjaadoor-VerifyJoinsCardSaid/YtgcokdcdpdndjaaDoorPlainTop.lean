/- flow.plain, whole. -/
import Derived.Test.YtgcokdcdpdndjaaDoorPlainLow
namespace Go.Proofs.YtgcokdcdpdndjaaDoor
open Go.RowKit Go.Proofs.YtgcokdcdpdndjaaDoorW.PrintWords
set_option linter.unusedVariables false
set_option linter.unusedSimpArgs false
theorem flowPlain (op : Int) (w : World) (hgl : Gl w) : Calls Tryd.prog 86 #[.int .i64 op] w (RuleRet w ((plainR op).getD ⟨[⟨1, 0⟩, ⟨1, 0⟩], [⟨1, 0⟩]⟩) (plainR op).isSome) := by
  by_cases h2 : op = 2
  · subst h2; exact plain2 w hgl
  by_cases h5 : op = 5
  · subst h5; exact plain5 w hgl
  by_cases h22 : op = 22
  · subst h22; exact plain22 w hgl
  by_cases h23 : op = 23
  · subst h23; exact plain23 w hgl
  by_cases h24 : op = 24
  · subst h24; exact plain24 w hgl
  by_cases h31 : op = 31
  · subst h31; exact plain31 w hgl
  by_cases h32 : op = 32
  · subst h32; exact plain32 w hgl
  by_cases h33 : op = 33
  · subst h33; exact plain33 w hgl
  by_cases h34 : op = 34
  · subst h34; exact plain34 w hgl
  by_cases h35 : op = 35
  · subst h35; exact plain35 w hgl
  by_cases h36 : op = 36
  · subst h36; exact plain36 w hgl
  by_cases h37 : op = 37
  · subst h37; exact plain37 w hgl
  by_cases h38 : op = 38
  · subst h38; exact plain38 w hgl
  by_cases h39 : op = 39
  · subst h39; exact plain39 w hgl
  by_cases h40 : op = 40
  · subst h40; exact plain40 w hgl
  have e : plainR op = if 8 ≤ op ∧ op ≤ 21 then some ⟨[⟨1, 0⟩, ⟨1, 0⟩], [⟨1, 0⟩]⟩ else none := by simp only [plainR, if_neg, not_false_eq_true, h2, h5, h22, h23, h24, h31, h32, h33, h34, h35, h36, h37, h38, h39, h40]
  rw [e]
  by_cases h8 : 8 ≤ op
  · by_cases h21 : op ≤ 21
    · rw [if_pos ⟨h8, h21⟩]; exact plainT op w hgl h2 h5 h22 h23 h24 h31 h32 h33 h34 h35 h36 h37 h38 h39 h40 (by simpa using h8) (by simpa using h21)
    · rw [if_neg (by omega)]; exact plainF op w hgl h2 h5 h22 h23 h24 h31 h32 h33 h34 h35 h36 h37 h38 h39 h40 (by simpa using h8) (by simpa using h21)
  · rw [if_neg (by omega)]; exact plainL op w hgl h2 h5 h22 h23 h24 h31 h32 h33 h34 h35 h36 h37 h38 h39 h40 (by simpa using h8)
end Go.Proofs.YtgcokdcdpdndjaaDoor
