/- slices.IndexFunc and slices.ContainsFunc at the types that the program uses. -/
import Derived.Test.YtgcokdcdpdndjaaDoorKinds
namespace Go.Proofs.YtgcokdcdpdndjaaDoor
open Go.RowKit Go.Proofs.YtgcokdcdpdndjaaDoorW.PrintWords
set_option linter.unusedVariables false
set_option linter.unusedSimpArgs false

set_option maxHeartbeats 800000 in
theorem IndexFuncTy (A : Option Addr) (c : Nat) (xs : List Ty) (g : Nat) (caps : Array Value) (p : Ty → Bool) (w : World)
    (hx : Kd.C kTy w A xs.length xs)
    (hg : ∀ args W, (callFunc g args).run Tryd.prog W = .ok (.enter g args) W)
    (hp : ∀ (x : Ty), x ∈ xs → ∀ W, Below w.heap.size w W → Calls Tryd.prog g (#[x.v] ++ caps) W fun e W' => e = .returned (.bool (p x)) ∧ Below W.heap.size W W') :
    Calls Tryd.prog 83 #[.slice A xs.length c, .func (.func g) #[] caps] w fun e w' => e = .returned (.int .i64 (idxF p xs)) ∧ Below w.heap.size w w' := by
  have hm : xs.length ≤ 9223372036854775807 := C_len hx
  have HX := Lib.hid hx
  clear hx
  have HP := Lib.hid hp
  clear hp
  go_enter Tryd.func83, Tryd.ntmps83
  go_wp2
  go_loopw [8] (fun i W => ∃ k : Nat, k ≤ xs.length ∧ i = .int .i64 k ∧ Below w.heap.size w W ∧ Hid (IdxAt p xs k)) (fun i _ => xs.length - (intOf i).toNat)
  case atStart => exact ⟨0, by omega, rfl, Below.refl _ _, Lib.hid (IdxAt.zero _ _)⟩
  case round =>
    obtain ⟨k, hk, rfl, hb, HI⟩ := hrel
    by_cases hlt : k < xs.length
    · obtain ⟨ad, x, rfl, hx, h0, h1⟩ := at_Ty (Kd.C_below HX.out hb) k hlt
      have HXK := Lib.hid hx
      clear hx
      go_wp2_with fail
      refine (HP.out x (List.mem_of_getElem? HXK.out) wr hb).mono ?_
      rintro e W' ⟨rfl, hb'⟩
      cases hpx : p x
      · have HPX := Lib.hid hpx
        clear hpx
        go_wp2
        go_roundw
        case rel => exact ⟨k + 1, by omega, by go_num, blt hb hb', Lib.hid (HI.out.miss HXK.out HPX.out)⟩
        case measure => simp [intOf]; omega
      · have HPX := Lib.hid hpx
        clear hpx
        go_wp2
        go_ret
        exact ⟨ret_int (HI.out.hit HXK.out HPX.out).symm, blt hb hb'⟩
    · go_wp2
      go_ret
      exact ⟨ret_int (HI.out.none (by omega)).symm, hb⟩
theorem ContainsFuncTy (A : Option Addr) (c : Nat) (xs : List Ty) (g : Nat) (caps : Array Value) (p : Ty → Bool) (w : World)
    (hx : Kd.C kTy w A xs.length xs)
    (hg : ∀ args W, (callFunc g args).run Tryd.prog W = .ok (.enter g args) W)
    (hp : ∀ (x : Ty), x ∈ xs → ∀ W, Below w.heap.size w W → Calls Tryd.prog g (#[x.v] ++ caps) W fun e W' => e = .returned (.bool (p x)) ∧ Below W.heap.size W W') :
    Calls Tryd.prog 50 #[.slice A xs.length c, .func (.func g) #[] caps] w fun e w' => e = .returned (.bool (xs.any p)) ∧ Below w.heap.size w w' := by
  have H := Lib.hid (IndexFuncTy A c xs g caps p w hx hg hp)
  clear hp hx
  go_enter Tryd.func50, Tryd.ntmps50
  go_wp2_with fail
  refine H.out.mono ?_
  rintro e W' ⟨rfl, hb'⟩
  go_wp2
  go_ret
  exact ⟨ret_bool (idxF_any p xs), hb'⟩

set_option maxHeartbeats 800000 in
theorem IndexFuncIns (A : Option Addr) (c : Nat) (xs : List Ins) (g : Nat) (caps : Array Value) (p : Ins → Bool) (w : World)
    (hx : Kd.C kIns w A xs.length xs)
    (hg : ∀ args W, (callFunc g args).run Tryd.prog W = .ok (.enter g args) W)
    (hp : ∀ (x : Ins), x ∈ xs → ∀ W, Below w.heap.size w W → Calls Tryd.prog g (#[x.v] ++ caps) W fun e W' => e = .returned (.bool (p x)) ∧ Below W.heap.size W W') :
    Calls Tryd.prog 82 #[.slice A xs.length c, .func (.func g) #[] caps] w fun e w' => e = .returned (.int .i64 (idxF p xs)) ∧ Below w.heap.size w w' := by
  have hm : xs.length ≤ 9223372036854775807 := C_len hx
  have HX := Lib.hid hx
  clear hx
  have HP := Lib.hid hp
  clear hp
  go_enter Tryd.func82, Tryd.ntmps82
  go_wp2
  go_loopw [8] (fun i W => ∃ k : Nat, k ≤ xs.length ∧ i = .int .i64 k ∧ Below w.heap.size w W ∧ Hid (IdxAt p xs k)) (fun i _ => xs.length - (intOf i).toNat)
  case atStart => exact ⟨0, by omega, rfl, Below.refl _ _, Lib.hid (IdxAt.zero _ _)⟩
  case round =>
    obtain ⟨k, hk, rfl, hb, HI⟩ := hrel
    by_cases hlt : k < xs.length
    · obtain ⟨ad, x, rfl, hx, h0, h1, h2⟩ := at_Ins (Kd.C_below HX.out hb) k hlt
      have HXK := Lib.hid hx
      clear hx
      go_wp2_with fail
      refine (HP.out x (List.mem_of_getElem? HXK.out) wr hb).mono ?_
      rintro e W' ⟨rfl, hb'⟩
      cases hpx : p x
      · have HPX := Lib.hid hpx
        clear hpx
        go_wp2
        go_roundw
        case rel => exact ⟨k + 1, by omega, by go_num, blt hb hb', Lib.hid (HI.out.miss HXK.out HPX.out)⟩
        case measure => simp [intOf]; omega
      · have HPX := Lib.hid hpx
        clear hpx
        go_wp2
        go_ret
        exact ⟨ret_int (HI.out.hit HXK.out HPX.out).symm, blt hb hb'⟩
    · go_wp2
      go_ret
      exact ⟨ret_int (HI.out.none (by omega)).symm, hb⟩
theorem ContainsFuncIns (A : Option Addr) (c : Nat) (xs : List Ins) (g : Nat) (caps : Array Value) (p : Ins → Bool) (w : World)
    (hx : Kd.C kIns w A xs.length xs)
    (hg : ∀ args W, (callFunc g args).run Tryd.prog W = .ok (.enter g args) W)
    (hp : ∀ (x : Ins), x ∈ xs → ∀ W, Below w.heap.size w W → Calls Tryd.prog g (#[x.v] ++ caps) W fun e W' => e = .returned (.bool (p x)) ∧ Below W.heap.size W W') :
    Calls Tryd.prog 49 #[.slice A xs.length c, .func (.func g) #[] caps] w fun e w' => e = .returned (.bool (xs.any p)) ∧ Below w.heap.size w w' := by
  have H := Lib.hid (IndexFuncIns A c xs g caps p w hx hg hp)
  clear hp hx
  go_enter Tryd.func49, Tryd.ntmps49
  go_wp2_with fail
  refine H.out.mono ?_
  rintro e W' ⟨rfl, hb'⟩
  go_wp2
  go_ret
  exact ⟨ret_bool (idxF_any p xs), hb'⟩

set_option maxHeartbeats 800000 in
theorem IndexFuncImp (A : Option Addr) (c : Nat) (xs : List Imp) (g : Nat) (caps : Array Value) (p : Imp → Bool) (w : World)
    (hx : Kd.C kImp w A xs.length xs)
    (hg : ∀ args W, (callFunc g args).run Tryd.prog W = .ok (.enter g args) W)
    (hp : ∀ (x : Imp) (h : ImpH) , x ∈ xs → ∀ W, Below w.heap.size w W → ImpAt W x h → Calls Tryd.prog g (#[(x.v h)] ++ caps) W fun e W' => e = .returned (.bool (p x)) ∧ Below W.heap.size W W') :
    Calls Tryd.prog 84 #[.slice A xs.length c, .func (.func g) #[] caps] w fun e w' => e = .returned (.int .i64 (idxF p xs)) ∧ Below w.heap.size w w' := by
  have hm : xs.length ≤ 9223372036854775807 := C_len hx
  have HX := Lib.hid hx
  clear hx
  have HP := Lib.hid hp
  clear hp
  go_enter Tryd.func84, Tryd.ntmps84
  go_wp2
  go_loopw [8] (fun i W => ∃ k : Nat, k ≤ xs.length ∧ i = .int .i64 k ∧ Below w.heap.size w W ∧ Hid (IdxAt p xs k)) (fun i _ => xs.length - (intOf i).toNat)
  case atStart => exact ⟨0, by omega, rfl, Below.refl _ _, Lib.hid (IdxAt.zero _ _)⟩
  case round =>
    obtain ⟨k, hk, rfl, hb, HI⟩ := hrel
    by_cases hlt : k < xs.length
    · obtain ⟨ad, x, h, rfl, hx, hA, h0, h1, h2⟩ := at_Imp (Kd.C_below HX.out hb) k hlt
      have HXK := Lib.hid hx
      clear hx
      have HA := Lib.hid hA
      clear hA
      go_wp2_with fail
      refine (HP.out x h (List.mem_of_getElem? HXK.out) wr hb HA.out).mono ?_
      rintro e W' ⟨rfl, hb'⟩
      cases hpx : p x
      · have HPX := Lib.hid hpx
        clear hpx
        go_wp2
        go_roundw
        case rel => exact ⟨k + 1, by omega, by go_num, blt hb hb', Lib.hid (HI.out.miss HXK.out HPX.out)⟩
        case measure => simp [intOf]; omega
      · have HPX := Lib.hid hpx
        clear hpx
        go_wp2
        go_ret
        exact ⟨ret_int (HI.out.hit HXK.out HPX.out).symm, blt hb hb'⟩
    · go_wp2
      go_ret
      exact ⟨ret_int (HI.out.none (by omega)).symm, hb⟩
theorem ContainsFuncImp (A : Option Addr) (c : Nat) (xs : List Imp) (g : Nat) (caps : Array Value) (p : Imp → Bool) (w : World)
    (hx : Kd.C kImp w A xs.length xs)
    (hg : ∀ args W, (callFunc g args).run Tryd.prog W = .ok (.enter g args) W)
    (hp : ∀ (x : Imp) (h : ImpH) , x ∈ xs → ∀ W, Below w.heap.size w W → ImpAt W x h → Calls Tryd.prog g (#[(x.v h)] ++ caps) W fun e W' => e = .returned (.bool (p x)) ∧ Below W.heap.size W W') :
    Calls Tryd.prog 55 #[.slice A xs.length c, .func (.func g) #[] caps] w fun e w' => e = .returned (.bool (xs.any p)) ∧ Below w.heap.size w w' := by
  have H := Lib.hid (IndexFuncImp A c xs g caps p w hx hg hp)
  clear hp hx
  go_enter Tryd.func55, Tryd.ntmps55
  go_wp2_with fail
  refine H.out.mono ?_
  rintro e W' ⟨rfl, hb'⟩
  go_wp2
  go_ret
  exact ⟨ret_bool (idxF_any p xs), hb'⟩

set_option maxHeartbeats 800000 in
theorem IndexFuncFn (A : Option Addr) (c : Nat) (xs : List Fn) (g : Nat) (caps : Array Value) (p : Fn → Bool) (w : World)
    (hx : Kd.C kFn w A xs.length xs)
    (hg : ∀ args W, (callFunc g args).run Tryd.prog W = .ok (.enter g args) W)
    (hp : ∀ (x : Fn) (h : FnH) , x ∈ xs → ∀ W, Below w.heap.size w W → FnAt W x h → Calls Tryd.prog g (#[(x.v h)] ++ caps) W fun e W' => e = .returned (.bool (p x)) ∧ Below W.heap.size W W') :
    Calls Tryd.prog 115 #[.slice A xs.length c, .func (.func g) #[] caps] w fun e w' => e = .returned (.int .i64 (idxF p xs)) ∧ Below w.heap.size w w' := by
  have hm : xs.length ≤ 9223372036854775807 := C_len hx
  have HX := Lib.hid hx
  clear hx
  have HP := Lib.hid hp
  clear hp
  go_enter Tryd.func115, Tryd.ntmps115
  go_wp2
  go_loopw [8] (fun i W => ∃ k : Nat, k ≤ xs.length ∧ i = .int .i64 k ∧ Below w.heap.size w W ∧ Hid (IdxAt p xs k)) (fun i _ => xs.length - (intOf i).toNat)
  case atStart => exact ⟨0, by omega, rfl, Below.refl _ _, Lib.hid (IdxAt.zero _ _)⟩
  case round =>
    obtain ⟨k, hk, rfl, hb, HI⟩ := hrel
    by_cases hlt : k < xs.length
    · obtain ⟨ad, x, h, rfl, hx, hA, h0, h1, h2, h3, h4⟩ := at_Fn (Kd.C_below HX.out hb) k hlt
      have HXK := Lib.hid hx
      clear hx
      have HA := Lib.hid hA
      clear hA
      go_wp2_with fail
      refine (HP.out x h (List.mem_of_getElem? HXK.out) wr hb HA.out).mono ?_
      rintro e W' ⟨rfl, hb'⟩
      cases hpx : p x
      · have HPX := Lib.hid hpx
        clear hpx
        go_wp2
        go_roundw
        case rel => exact ⟨k + 1, by omega, by go_num, blt hb hb', Lib.hid (HI.out.miss HXK.out HPX.out)⟩
        case measure => simp [intOf]; omega
      · have HPX := Lib.hid hpx
        clear hpx
        go_wp2
        go_ret
        exact ⟨ret_int (HI.out.hit HXK.out HPX.out).symm, blt hb hb'⟩
    · go_wp2
      go_ret
      exact ⟨ret_int (HI.out.none (by omega)).symm, hb⟩
theorem ContainsFuncFn (A : Option Addr) (c : Nat) (xs : List Fn) (g : Nat) (caps : Array Value) (p : Fn → Bool) (w : World)
    (hx : Kd.C kFn w A xs.length xs)
    (hg : ∀ args W, (callFunc g args).run Tryd.prog W = .ok (.enter g args) W)
    (hp : ∀ (x : Fn) (h : FnH) , x ∈ xs → ∀ W, Below w.heap.size w W → FnAt W x h → Calls Tryd.prog g (#[(x.v h)] ++ caps) W fun e W' => e = .returned (.bool (p x)) ∧ Below W.heap.size W W') :
    Calls Tryd.prog 98 #[.slice A xs.length c, .func (.func g) #[] caps] w fun e w' => e = .returned (.bool (xs.any p)) ∧ Below w.heap.size w w' := by
  have H := Lib.hid (IndexFuncFn A c xs g caps p w hx hg hp)
  clear hp hx
  go_enter Tryd.func98, Tryd.ntmps98
  go_wp2_with fail
  refine H.out.mono ?_
  rintro e W' ⟨rfl, hb'⟩
  go_wp2
  go_ret
  exact ⟨ret_bool (idxF_any p xs), hb'⟩

set_option maxHeartbeats 800000 in
theorem IndexFuncTys (A : Option Addr) (c : Nat) (xs : List (List Ty)) (g : Nat) (caps : Array Value) (p : (List Ty) → Bool) (w : World)
    (hx : Kd.C kTys w A xs.length xs)
    (hg : ∀ args W, (callFunc g args).run Tryd.prog W = .ok (.enter g args) W)
    (hp : ∀ (x : List Ty) (A0 : Option Addr) (c0 : Nat) , x ∈ xs → ∀ W, Below w.heap.size w W → kTy.C W A0 x.length x → x.length ≤ c0 → Calls Tryd.prog g (#[(.slice A0 x.length c0)] ++ caps) W fun e W' => e = .returned (.bool (p x)) ∧ Below W.heap.size W W') :
    Calls Tryd.prog 113 #[.slice A xs.length c, .func (.func g) #[] caps] w fun e w' => e = .returned (.int .i64 (idxF p xs)) ∧ Below w.heap.size w w' := by
  have hm : xs.length ≤ 9223372036854775807 := C_len hx
  have HX := Lib.hid hx
  clear hx
  have HP := Lib.hid hp
  clear hp
  go_enter Tryd.func113, Tryd.ntmps113
  go_wp2
  go_loopw [8] (fun i W => ∃ k : Nat, k ≤ xs.length ∧ i = .int .i64 k ∧ Below w.heap.size w W ∧ Hid (IdxAt p xs k)) (fun i _ => xs.length - (intOf i).toNat)
  case atStart => exact ⟨0, by omega, rfl, Below.refl _ _, Lib.hid (IdxAt.zero _ _)⟩
  case round =>
    obtain ⟨k, hk, rfl, hb, HI⟩ := hrel
    by_cases hlt : k < xs.length
    · obtain ⟨ad, x, A0, c0, rfl, hx, hA, hA2, h0⟩ := at_Tys (Kd.C_below HX.out hb) k hlt
      have HXK := Lib.hid hx
      clear hx
      have HA := Lib.hid hA
      clear hA
      go_wp2_with fail
      refine (HP.out x A0 c0 (List.mem_of_getElem? HXK.out) wr hb HA.out hA2).mono ?_
      rintro e W' ⟨rfl, hb'⟩
      cases hpx : p x
      · have HPX := Lib.hid hpx
        clear hpx
        go_wp2
        go_roundw
        case rel => exact ⟨k + 1, by omega, by go_num, blt hb hb', Lib.hid (HI.out.miss HXK.out HPX.out)⟩
        case measure => simp [intOf]; omega
      · have HPX := Lib.hid hpx
        clear hpx
        go_wp2
        go_ret
        exact ⟨ret_int (HI.out.hit HXK.out HPX.out).symm, blt hb hb'⟩
    · go_wp2
      go_ret
      exact ⟨ret_int (HI.out.none (by omega)).symm, hb⟩
theorem ContainsFuncTys (A : Option Addr) (c : Nat) (xs : List (List Ty)) (g : Nat) (caps : Array Value) (p : (List Ty) → Bool) (w : World)
    (hx : Kd.C kTys w A xs.length xs)
    (hg : ∀ args W, (callFunc g args).run Tryd.prog W = .ok (.enter g args) W)
    (hp : ∀ (x : List Ty) (A0 : Option Addr) (c0 : Nat) , x ∈ xs → ∀ W, Below w.heap.size w W → kTy.C W A0 x.length x → x.length ≤ c0 → Calls Tryd.prog g (#[(.slice A0 x.length c0)] ++ caps) W fun e W' => e = .returned (.bool (p x)) ∧ Below W.heap.size W W') :
    Calls Tryd.prog 95 #[.slice A xs.length c, .func (.func g) #[] caps] w fun e w' => e = .returned (.bool (xs.any p)) ∧ Below w.heap.size w w' := by
  have H := Lib.hid (IndexFuncTys A c xs g caps p w hx hg hp)
  clear hp hx
  go_enter Tryd.func95, Tryd.ntmps95
  go_wp2_with fail
  refine H.out.mono ?_
  rintro e W' ⟨rfl, hb'⟩
  go_wp2
  go_ret
  exact ⟨ret_bool (idxF_any p xs), hb'⟩

set_option maxHeartbeats 800000 in
theorem IndexFuncStr (A : Option Addr) (c : Nat) (xs : List ByteArray) (g : Nat) (caps : Array Value) (p : ByteArray → Bool) (w : World)
    (hx : Kd.C Kd.string w A xs.length xs)
    (hg : ∀ args W, (callFunc g args).run Tryd.prog W = .ok (.enter g args) W)
    (hp : ∀ (x : ByteArray), x ∈ xs → ∀ W, Below w.heap.size w W → Calls Tryd.prog g (#[(.string x)] ++ caps) W fun e W' => e = .returned (.bool (p x)) ∧ Below W.heap.size W W') :
    Calls Tryd.prog 117 #[.slice A xs.length c, .func (.func g) #[] caps] w fun e w' => e = .returned (.int .i64 (idxF p xs)) ∧ Below w.heap.size w w' := by
  have hm : xs.length ≤ 9223372036854775807 := C_len hx
  have HX := Lib.hid hx
  clear hx
  have HP := Lib.hid hp
  clear hp
  go_enter Tryd.func117, Tryd.ntmps117
  go_wp2
  go_loopw [8] (fun i W => ∃ k : Nat, k ≤ xs.length ∧ i = .int .i64 k ∧ Below w.heap.size w W ∧ Hid (IdxAt p xs k)) (fun i _ => xs.length - (intOf i).toNat)
  case atStart => exact ⟨0, by omega, rfl, Below.refl _ _, Lib.hid (IdxAt.zero _ _)⟩
  case round =>
    obtain ⟨k, hk, rfl, hb, HI⟩ := hrel
    by_cases hlt : k < xs.length
    · obtain ⟨ad, x, rfl, hx, h0⟩ := at_str (Kd.C_below HX.out hb) k hlt
      have HXK := Lib.hid hx
      clear hx
      go_wp2_with fail
      refine (HP.out x (List.mem_of_getElem? HXK.out) wr hb).mono ?_
      rintro e W' ⟨rfl, hb'⟩
      cases hpx : p x
      · have HPX := Lib.hid hpx
        clear hpx
        go_wp2
        go_roundw
        case rel => exact ⟨k + 1, by omega, by go_num, blt hb hb', Lib.hid (HI.out.miss HXK.out HPX.out)⟩
        case measure => simp [intOf]; omega
      · have HPX := Lib.hid hpx
        clear hpx
        go_wp2
        go_ret
        exact ⟨ret_int (HI.out.hit HXK.out HPX.out).symm, blt hb hb'⟩
    · go_wp2
      go_ret
      exact ⟨ret_int (HI.out.none (by omega)).symm, hb⟩
theorem ContainsFuncStr (A : Option Addr) (c : Nat) (xs : List ByteArray) (g : Nat) (caps : Array Value) (p : ByteArray → Bool) (w : World)
    (hx : Kd.C Kd.string w A xs.length xs)
    (hg : ∀ args W, (callFunc g args).run Tryd.prog W = .ok (.enter g args) W)
    (hp : ∀ (x : ByteArray), x ∈ xs → ∀ W, Below w.heap.size w W → Calls Tryd.prog g (#[(.string x)] ++ caps) W fun e W' => e = .returned (.bool (p x)) ∧ Below W.heap.size W W') :
    Calls Tryd.prog 103 #[.slice A xs.length c, .func (.func g) #[] caps] w fun e w' => e = .returned (.bool (xs.any p)) ∧ Below w.heap.size w w' := by
  have H := Lib.hid (IndexFuncStr A c xs g caps p w hx hg hp)
  clear hp hx
  go_enter Tryd.func103, Tryd.ntmps103
  go_wp2_with fail
  refine H.out.mono ?_
  rintro e W' ⟨rfl, hb'⟩
  go_wp2
  go_ret
  exact ⟨ret_bool (idxF_any p xs), hb'⟩
set_option maxHeartbeats 800000 in
theorem IndexFuncInt (A : Option Addr) (c : Nat) (xs : List Int) (g : Nat) (caps : Array Value) (p : Int → Bool) (w : World)
    (hx : Kd.C (Kd.int .i64) w A xs.length xs)
    (hg : ∀ args W, (callFunc g args).run Tryd.prog W = .ok (.enter g args) W)
    (hp : ∀ (x : Int), x ∈ xs → ∀ W, Below w.heap.size w W → Calls Tryd.prog g (#[(.int .i64 x)] ++ caps) W fun e W' => e = .returned (.bool (p x)) ∧ Below W.heap.size W W') :
    Calls Tryd.prog 91 #[.slice A xs.length c, .func (.func g) #[] caps] w fun e w' => e = .returned (.int .i64 (idxF p xs)) ∧ Below w.heap.size w w' := by
  have hm : xs.length ≤ 9223372036854775807 := C_len hx
  have HX := Lib.hid hx
  clear hx
  have HP := Lib.hid hp
  clear hp
  go_enter Tryd.func91, Tryd.ntmps91
  go_wp2
  go_loopw [8] (fun i W => ∃ k : Nat, k ≤ xs.length ∧ i = .int .i64 k ∧ Below w.heap.size w W ∧ Hid (IdxAt p xs k)) (fun i _ => xs.length - (intOf i).toNat)
  case atStart => exact ⟨0, by omega, rfl, Below.refl _ _, Lib.hid (IdxAt.zero _ _)⟩
  case round =>
    obtain ⟨k, hk, rfl, hb, HI⟩ := hrel
    by_cases hlt : k < xs.length
    · obtain ⟨ad, x, rfl, hx, h0⟩ := at_int (Kd.C_below HX.out hb) k hlt
      have HXK := Lib.hid hx
      clear hx
      go_wp2_with fail
      refine (HP.out x (List.mem_of_getElem? HXK.out) wr hb).mono ?_
      rintro e W' ⟨rfl, hb'⟩
      cases hpx : p x
      · have HPX := Lib.hid hpx
        clear hpx
        go_wp2
        go_roundw
        case rel => exact ⟨k + 1, by omega, by go_num, blt hb hb', Lib.hid (HI.out.miss HXK.out HPX.out)⟩
        case measure => simp [intOf]; omega
      · have HPX := Lib.hid hpx
        clear hpx
        go_wp2
        go_ret
        exact ⟨ret_int (HI.out.hit HXK.out HPX.out).symm, blt hb hb'⟩
    · go_wp2
      go_ret
      exact ⟨ret_int (HI.out.none (by omega)).symm, hb⟩
theorem ContainsFuncInt (A : Option Addr) (c : Nat) (xs : List Int) (g : Nat) (caps : Array Value) (p : Int → Bool) (w : World)
    (hx : Kd.C (Kd.int .i64) w A xs.length xs)
    (hg : ∀ args W, (callFunc g args).run Tryd.prog W = .ok (.enter g args) W)
    (hp : ∀ (x : Int), x ∈ xs → ∀ W, Below w.heap.size w W → Calls Tryd.prog g (#[(.int .i64 x)] ++ caps) W fun e W' => e = .returned (.bool (p x)) ∧ Below W.heap.size W W') :
    Calls Tryd.prog 63 #[.slice A xs.length c, .func (.func g) #[] caps] w fun e w' => e = .returned (.bool (xs.any p)) ∧ Below w.heap.size w w' := by
  have H := Lib.hid (IndexFuncInt A c xs g caps p w hx hg hp)
  clear hp hx
  go_enter Tryd.func63, Tryd.ntmps63
  go_wp2_with fail
  refine H.out.mono ?_
  rintro e W' ⟨rfl, hb'⟩
  go_wp2
  go_ret
  exact ⟨ret_bool (idxF_any p xs), hb'⟩
end Go.Proofs.YtgcokdcdpdndjaaDoor
