/- The engine, part 17: the functions without a Go body that the program uses. -/
import Derived.Test.YtkjclebafpomhaaDoorEngP
import Derived.Lib.Bytealg
import GoSem.Extern.BytealgCount
import GoSem.Extern.BytealgIndexByte
set_option linter.unusedVariables false
set_option linter.unusedSimpArgs false
namespace Go.Eng
open Go

theorem prun_extern {P : Program} {f : FuncId} {fn : Func} {e : Array Value → Sem Value} {args : Array Value} {v : Value} (hf : P.funcs[f]? = some fn) (hname : (fn.name == "runtime.NumGoroutine") = false) (hb : fn.body = none)
    (hn : Extern.findNext fn = none) (he : Extern.find fn = some e) (h : prun P (e args) = some v) : prun P (callFunc f args) = some (.value v) := by
  have hn' : fn.name ≠ "runtime.NumGoroutine" := by simpa using hname
  have hm : ∀ (m : Mark) (k : Sem Next), prun P (mark m >>= fun _ => k) = prun P k := by intro m k; rfl
  unfold callFunc
  simp only [prun_bind, prun_program, Option.bind_some, hf]
  rw [if_neg (by simpa using hn'), if_pos (by rw [hb]; rfl), hm]
  rw [hn, he]
  have hmap : ∀ m : Sem Value, prun P (Next.value <$> m) = (prun P m).map Next.value := by
    intro m
    have e : (Next.value <$> m) = (m >>= fun x => pure (Next.value x)) := by rw [map_eq_pure_bind]
    rw [e, prun_bind]
    cases prun P m <;> rfl
  simp [hmap, h]

theorem find_idx (c : UInt8) : ∀ (l : List UInt8) (k : Nat), byteIdx c l k = match (List.range l.length).find? (fun i => l[i]! == c) with
    | some i => ((k + i : Nat) : Int)
    | none => -1 := by
  intro l
  induction l with
  | nil => intro k; rfl
  | cons b l ih =>
    intro k
    simp only [byteIdx, List.length_cons, List.range_succ_eq_map, List.find?_cons, List.find?_map]
    by_cases hb : (b == c) = true
    · simp [hb]
    · simp only [hb, Bool.false_eq_true, if_false, ih (k + 1)]
      have h0 : ((b :: l)[0]! == c) = false := by simpa using hb
      rw [h0]
      have e : ((fun i => (b :: l)[i]! == c) ∘ Nat.succ) = fun i => l[i]! == c := by
        funext i; simp [Function.comp]
      rw [e]
      cases (List.range l.length).find? fun i => l[i]! == c with
      | none => rfl
      | some i => show ((k + 1 + i : Nat) : Int) = ((k + (i + 1) : Nat) : Int); congr 1; omega

theorem cnt_fold (c : UInt8) : ∀ (l : List UInt8) (n : Int), l.foldl (fun (n : Int) x => if x == c then n + 1 else n) n = n + (byteCnt c l : Nat) := by
  intro l
  induction l with
  | nil => intro n; simp [byteCnt]
  | cons b l ih => intro n; simp only [List.foldl_cons, byteCnt]; rw [ih]; split <;> (try simp) <;> omega

theorem ext_idx {P : Program} {f : FuncId} {fn : Func} (hf : P.funcs[f]? = some fn) (hname : (fn.name == "runtime.NumGoroutine") = false) (hb : fn.body = none) (hn : Extern.findNext fn = none) (he : Extern.find fn = some Extern.BytealgIndexByte.indexByte)
    {vs : List Value} {v : Value} (h : extIdx vs = some v) : vs.all (flat 0) = true ∧ prun P (callFunc f vs.toArray) = some (.value v) ∧ flat 1 v = true := by
  unfold extIdx at h
  split at h
  · rename_i s c
    injection h with h
    subst h
    refine ⟨rfl, prun_extern hf hname hb hn he ?_, rfl⟩
    have e : ∀ i : Nat, s[i]! = s.data.toList[i]! := by
      intro i
      by_cases hi : i < s.size
      · have h2 : i < s.data.toList.length := hi
        rw [getElem!_pos s i hi, getElem!_pos s.data.toList i h2]
        rfl
      · have h2 : ¬ i < s.data.toList.length := hi
        rw [getElem!_neg s i hi, getElem!_neg s.data.toList i h2]
    have hs : (List.range s.size).find? (fun i : Nat => s[i]! == c.toNat.toUInt8) = (List.range s.data.toList.length).find? fun i : Nat => s.data.toList[i]! == c.toNat.toUInt8 := by
      have : (fun i : Nat => s[i]! == c.toNat.toUInt8) = fun i : Nat => s.data.toList[i]! == c.toNat.toUInt8 := by
        funext i; rw [e i]
      rw [this]; rfl
    have h1 := find_idx c.toNat.toUInt8 s.data.toList 0
    rw [← hs] at h1
    have h2 : Extern.BytealgIndexByte.indexByte #[.string s, .int .u8 c] = (match (List.range s.size).find? (fun i : Nat => s[i]! == c.toNat.toUInt8) with
      | some i => pure (goInt i)
      | none => pure (goInt (-1))) := rfl
    show prun P (Extern.BytealgIndexByte.indexByte #[.string s, .int .u8 c]) = _
    rw [h2, h1]
    cases (List.range s.size).find? (fun i : Nat => s[i]! == c.toNat.toUInt8) with
    | some i => simp [goInt]
    | none => rfl
  · cases h
theorem ext_cnt {P : Program} {f : FuncId} {fn : Func} (hf : P.funcs[f]? = some fn) (hname : (fn.name == "runtime.NumGoroutine") = false) (hb : fn.body = none) (hn : Extern.findNext fn = none) (he : Extern.find fn = some Extern.BytealgCount.count)
    {vs : List Value} {v : Value} (h : extCnt vs = some v) : vs.all (flat 0) = true ∧ prun P (callFunc f vs.toArray) = some (.value v) ∧ flat 1 v = true := by
  unfold extCnt at h
  split at h
  · rename_i s c
    injection h with h
    subst h
    refine ⟨rfl, prun_extern hf hname hb hn he ?_, rfl⟩
    have h2 : Extern.BytealgCount.count #[.string s, .int .u8 c] = pure (goInt (s.foldl (fun (n : Int) x => if x == c.toNat.toUInt8 then n + 1 else n) ((0 : Nat) : Int))) := rfl
    show prun P (Extern.BytealgCount.count #[.string s, .int .u8 c]) = _
    rw [h2, Lib.foldl_data, cnt_fold]
    simp [goInt]
  · cases h
end Go.Eng
