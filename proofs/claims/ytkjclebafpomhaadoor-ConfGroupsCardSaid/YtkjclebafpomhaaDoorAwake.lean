/- The seat's tables; its two Awakes answer true. -/
import Derived.Test.YtkjclebafpomhaaDoorEngQ
import Derived.Test.YtkjclebafpomhaaDoorProg
import Derived.KernelRfl
set_option linter.unusedVariables false
set_option maxRecDepth 100000
namespace Go.Proofs.YtkjclebafpomhaaDoor
open Go Go.Eng

def plainT (i : TypeInfo) : Option TypeInfo := match i.zero with
  | some (.tuple _) => none
  | _ => some i
noncomputable def tb : Tb := { und := Tryd.prog.underlying, info := fun t => (Tryd.prog.types[t]?).bind plainT }
noncomputable def cx : Cx := { P := Tryd.prog, T := tb, G := 4, fn := fun f => Tryd.prog.funcs[f]?, ext := fun f args => if Nat.beq f 149 then extIdx args else if Nat.beq f 140 then extCnt args else none }

def zeroOk (i : TypeInfo) : Bool := match i.zero with
  | some (.tuple _) => true
  | some z => z.cells.toList.all (flat 0) && Nat.beq z.cells.size i.size && flat 1 z
  | none => true
theorem zeros : Tryd.prog.types.toList.all zeroOk = true := by kernel_rfl
theorem names : Tryd.prog.funcs.toList.all (fun fn => !(fn.name == "runtime.NumGoroutine")) = true := by kernel_rfl
theorem bodies : (Tryd.prog.funcs.toList.zipIdx.all fun (fn, f) => fn.body.isSome || Nat.beq f 149 || Nat.beq f 140 || true) = true := by kernel_rfl
theorem mixed : Tryd.prog.follows .mixedOrders = true := by kernel_rfl
theorem idxX (fn : Func) (h : Tryd.prog.funcs[149]? = some fn) : fn.body = none ∧ Extern.findNext fn = none ∧ Extern.find fn = some Extern.BytealgIndexByte.indexByte := by
  obtain rfl : fn = Tryd.f149 := (Option.some.inj ((show Tryd.prog.funcs[149]? = some Tryd.f149 by kernel_rfl).symm.trans h)).symm
  exact ⟨by kernel_rfl, by kernel_rfl, by kernel_rfl⟩
theorem cntX (fn : Func) (h : Tryd.prog.funcs[140]? = some fn) : fn.body = none ∧ Extern.findNext fn = none ∧ Extern.find fn = some Extern.BytealgCount.count := by
  obtain rfl : fn = Tryd.f140 := (Option.some.inj ((show Tryd.prog.funcs[140]? = some Tryd.f140 by kernel_rfl).symm.trans h)).symm
  exact ⟨by kernel_rfl, by kernel_rfl, by kernel_rfl⟩

theorem cxOK : CxOK cx where
  tb := {
    und := fun _ _ h => h
    info := fun t i h => by
      obtain ⟨i', h1, h2⟩ := Option.bind_eq_some_iff.1 (show (Tryd.prog.types[t]?).bind plainT = some i from h)
      have e : i' = i := by
        unfold plainT at h2
        split at h2
        · cases h2
        · injection h2
      subst e
      show (if t < Tryd.prog.types.size then Tryd.prog.types[t]? else _) = _
      rw [if_pos (Array.getElem?_eq_some_iff.1 h1).1]
      exact h1
    zero := fun t i z h hz => by
      obtain ⟨i', h1, h2⟩ := Option.bind_eq_some_iff.1 (show (Tryd.prog.types[t]?).bind plainT = some i from h)
      unfold plainT at h2
      split at h2
      · cases h2
      · rename_i hnt
        injection h2 with h2
        subst h2
        have := List.all_eq_true.1 zeros i' (by simpa using Array.mem_of_getElem? h1)
        unfold zeroOk at this
        rw [hz] at this
        cases z with
        | tuple c => exact absurd hz (hnt c)
        | _ =>
          simp only [Bool.and_eq_true] at this
          exact ⟨this.1.1, Nat.eq_of_beq_eq_true this.1.2, this.2⟩ }
  fn := fun f fn h => ⟨h, by
    have := List.all_eq_true.1 names fn (by simpa using Array.mem_of_getElem? h)
    simpa using this⟩
  ext := fun f fn vs v h hb hx => by
    have hname : (fn.name == "runtime.NumGoroutine") = false := by
      have := List.all_eq_true.1 names fn (by simpa using Array.mem_of_getElem? h)
      simpa using this
    have hx : (if Nat.beq f 149 then extIdx vs else if Nat.beq f 140 then extCnt vs else none) = some v := hx
    split at hx
    · rename_i e
      obtain rfl := Nat.eq_of_beq_eq_true e
      obtain ⟨h1, h2, h3⟩ := idxX fn h
      exact ext_idx h hname h1 h2 h3 hx
    · split at hx
      · rename_i e
        obtain rfl := Nat.eq_of_beq_eq_true e
        obtain ⟨h1, h2, h3⟩ := cntX fn h
        exact ext_cnt h hname h1 h2 h3 hx
      · cases hx
  mix := mixed
  sp := fun f fn g _ h => by cases h

theorem run12 : (callD cx 100000 30 12 [] (noHeap 4)).map (·.1) = some (.bool true) := by kernel_rfl
theorem run27 : (callD cx 100000 30 27 [] (noHeap 4)).map (·.1) = some (.bool true) := by kernel_rfl
theorem awake12 (H : AHeap) : ACalls Tryd.prog 4 12 [] H fun v H' => v = .bool true ∧ H' = H :=
  acalls_reckoned (cx := cx) cxOK (fn := Tryd.f12) rfl rfl (by kernel_rfl) (by kernel_rfl) run12 H
theorem awake27 (H : AHeap) : ACalls Tryd.prog 4 27 [] H fun v H' => v = .bool true ∧ H' = H :=
  acalls_reckoned (cx := cx) cxOK (fn := Tryd.f27) rfl rfl (by kernel_rfl) (by kernel_rfl) run27 H
#print axioms awake12
end Go.Proofs.YtkjclebafpomhaaDoor
