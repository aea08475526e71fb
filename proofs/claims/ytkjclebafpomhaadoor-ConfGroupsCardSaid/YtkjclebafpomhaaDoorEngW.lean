/- The engine, part 23: what is wanted of a region in whatever order holds of it. -/
import Derived.Test.YtkjclebafpomhaaDoorEngV
set_option linter.unusedVariables false
set_option linter.unusedSimpArgs false
namespace Go.Eng
open Go
section
variable {cx : Cx} {N : Nat} {ops : Array Oper}

theorem bindV_inv {r : Option Value} {k : Value → Prop} (h : bindV r k) : ∃ v, r = some v ∧ k v := by cases r with | none => cases h | some v => exact ⟨v, rfl, h⟩
theorem bindR_inv {r : Option (Value × AHeap)} {k : Value → AHeap → Prop} (h : bindR r k) : ∃ v H, r = some (v, H) ∧ k v H := by cases r with | none => cases h | some v => exact ⟨v.1, v.2, rfl, h⟩
theorem bindH_inv {r : Option AHeap} {k : AHeap → Prop} (h : bindH r k) : ∃ v, r = some v ∧ k v := by cases r with | none => cases h | some v => exact ⟨v, rfl, h⟩
theorem bindL_inv {r : Option (List Value)} {k : List Value → Prop} (h : bindL r k) : ∃ v, r = some v ∧ k v := by cases r with | none => cases h | some v => exact ⟨v, rfl, h⟩
theorem bindP_inv {r : Option (List (Nat × Value))} {k : List (Nat × Value) → Prop} (h : bindP r k) : ∃ v, r = some v ∧ k v := by cases r with | none => cases h | some v => exact ⟨v, rfl, h⟩
theorem ptrW_inv {v : Value} {k : Nat → Prop} (h : ptrW v k) : ∃ b o sp, v = .pointer (some ⟨b, o, sp⟩) ∧ k b := by
  unfold ptrW at h
  split at h
  · rename_i a; obtain ⟨b, o, sp⟩ := a; exact ⟨b, o, sp, rfl, h⟩
  · cases h
theorem mapW_inv {v : Value} {k : List Nat → Prop} (h : mapW v k) : ∃ bs, (v = .map none ∧ bs = [] ∨ ∃ r, v = .map (some r) ∧ bs = [r]) ∧ k bs := by
  unfold mapW at h
  split at h
  · exact ⟨[], .inl ⟨rfl, rfl⟩, h⟩
  · rename_i r; exact ⟨[r], .inr ⟨r, rfl, rfl⟩, h⟩
  · cases h

/-- A declared touch covers a true one. -/
def covers (e : Option Eff) (F W : List Nat) (a b : Nat) : Prop := match e with
  | none => F = [] ∧ W = [] ∧ a = b
  | some (.some F1 W1 a1 b1) => F1 = F ∧ W1 = W ∧ ((a1 = a ∧ b1 = b) ∨ (a = b ∧ a1 = 0 ∧ b1 = 0))
  | some .all => True
inductive RegRes (cx : Cx) (op : Op) (τ : Tmps) (H : AHeap) (v : Value) (H' : AHeap) (e : Option Eff) : Prop
  | pure : aop cx.P cx.T cx.G τ op (viewL [] [] H) = some (v, viewL [] [] H) → H' = H → e = none → RegRes cx op τ H v H' e
  | op {F W : List Nat} : aop cx.P cx.T cx.G τ op H = some (v, H') → Local (aop cx.P cx.T cx.G τ op) H F W v H' → covers e (W ++ F) W H.next H'.next → RegRes cx op τ H v H' e
  | call {g : FuncId} {vs : List Value} : acallee cx.G τ op = some (g, vs) → callS cx g vs H = some (v, H') → H.next ≤ H'.next → e = some .all → RegRes cx op τ H v H' e
  | near {g : FuncId} {vs : List Value} : acallee cx.G τ op = some (g, vs) → callS cx g vs H = some (v, H') → Local (callS cx g vs) H [] [] v H' → covers e [] [] H.next H'.next → RegRes cx op τ H v H' e

theorem aLen_slice (T : Tb) (t : TypeId) (a : Option Addr) (n c : Nat) (H E : AHeap) : aLen T t (.slice a n c) H = aLen T t (.slice a n c) E := by
  unfold aLen
  cases T.und t with
  | none => rfl
  | some d => cases d <;> rfl
theorem aLen_string (T : Tb) (t : TypeId) (s : ByteArray) (H E : AHeap) : aLen T t (.string s) H = aLen T t (.string s) E := by
  unfold aLen
  cases T.und t with
  | none => rfl
  | some d => cases d <;> rfl
theorem regOp_ok {near : Bool} {op : Op} {τ : Tmps} {H : AHeap} {K : Value → AHeap → Eff → Prop} {Kp : Value → Prop} (hg : Grew H) (h : regOp cx near op τ H K Kp) :
    (∃ v, Kp v ∧ RegRes cx op τ H v H none) ∨ ∃ v H' e, K v H' e ∧ RegRes cx op τ H v H' (some e) := by
  unfold regOp at h
  split at h
  · -- load
    obtain ⟨v, hv, h⟩ := bindV_inv h
    obtain ⟨b, o, sp, rfl, h⟩ := ptrW_inv h
    obtain ⟨u, H', hu, h⟩ := bindR_inv h
    obtain ⟨rfl, h2⟩ := aLoad_local hu
    exact .inr ⟨u, H', _, h, .op (F := [b]) (W := []) (by simp only [aop, hv, Option.bind_some]; exact hu) (.same (by simp only [aop, hv, Option.bind_some]; exact h2)) ⟨rfl, rfl, .inr ⟨rfl, rfl, rfl⟩⟩⟩
  · -- lookup
    obtain ⟨m, hm, h⟩ := bindV_inv h
    obtain ⟨k, hk, h⟩ := bindV_inv h
    obtain ⟨bs, hb, h⟩ := mapW_inv h
    obtain ⟨u, hu, h⟩ := bindV_inv h
    exact .inr ⟨u, H, _, h, .op (F := bs) (W := []) (by simp only [aop, hm, hk, Option.bind_some, hu]; rfl) (.same (by simp only [aop, hm, hk, Option.bind_some, aLookup_local hb hu]; rfl)) ⟨rfl, rfl, .inr ⟨rfl, rfl, rfl⟩⟩⟩
  · -- alloc
    obtain ⟨u, H', hu, h⟩ := bindR_inv h
    have hu' := hu
    unfold aAlloc at hu
    obtain ⟨z, hz, hu⟩ := Option.bind_eq_some_iff.1 hu
    obtain ⟨hall, he⟩ := aNew_inv hu
    injection he with h1 h2
    subst h1; subst h2
    exact .inr ⟨_, _, _, h, .op (F := []) (W := []) hu' (.new fun E hE => by simp only [aop, aAlloc, hz, Option.bind_some, aNew, if_pos hall, hE]) ⟨rfl, rfl, .inl ⟨rfl, rfl⟩⟩⟩
  · -- box
    obtain ⟨x, hx, h⟩ := bindV_inv h
    obtain ⟨u, H', hu, h⟩ := bindR_inv h
    have hu' := hu
    unfold aBox at hu
    split at hu
    · rename_i hk
      obtain ⟨hall, he⟩ := aNew_inv hu
      injection he with h1 h2
      subst h1; subst h2
      exact .inr ⟨_, _, _, h, .op (F := []) (W := []) (by simp only [aop, hx, Option.bind_some]; exact hu') (.new fun E hE => by simp only [aop, hx, Option.bind_some, aBox, if_pos hk, aNew, if_pos hall, hE]) ⟨rfl, rfl, .inl ⟨rfl, rfl⟩⟩⟩
    · cases hu
  · -- buildSlice
    rename_i t n ps
    obtain ⟨x, hx, h⟩ := bindP_inv h
    obtain ⟨u, H', hu, h⟩ := bindR_inv h
    have hu' := hu
    unfold aBuildSlice at hu
    split at hu
    · rename_i e he
      split at hu
      · rename_i i z hi hz
        split at hu
        · rename_i hc
          obtain ⟨cs, hcs, hu⟩ := Option.bind_eq_some_iff.1 hu
          obtain ⟨r, hr, hu⟩ := Option.map_eq_some_iff.1 hu
          obtain ⟨hall, rfl⟩ := aNew_inv hr
          injection hu with h1 h2
          subst h1; subst h2
          exact .inr ⟨_, _, _, h, .op (F := []) (W := []) (by simp only [aop, hx, Option.bind_some]; exact hu') (.new fun E hE => by
            simp only [aop, hx, Option.bind_some, aBuildSlice, he, hi, hz, if_pos hc, hcs, aNew, if_pos hall, Option.map_some, hE]) ⟨rfl, rfl, .inl ⟨rfl, rfl⟩⟩⟩
        · cases hu
      · cases hu
    · cases hu
  · -- store
    obtain ⟨v, hv, h⟩ := bindV_inv h
    obtain ⟨u, hu, h⟩ := bindV_inv h
    obtain ⟨b, o, sp, rfl, h⟩ := ptrW_inv h
    obtain ⟨H', hs, hp, h⟩ := bindH_inv h
    obtain ⟨hlt, hpar, o', rfl, hE⟩ := aStore_inv hs hp
    exact .inr ⟨_, _, _, h, .op (F := []) (W := [b]) (by simp only [aop, hv, hu, Option.bind_some, hs]; rfl) (.set (fun E h1 h2 => by simp only [aop, hv, hu, Option.bind_some, hE E h1 h2]; rfl) hlt hpar) ⟨rfl, rfl, .inr ⟨rfl, rfl, rfl⟩⟩⟩
  · -- mapUpdate
    obtain ⟨m, hm, h⟩ := bindV_inv h
    obtain ⟨k, hk, h⟩ := bindV_inv h
    obtain ⟨y, hy, h⟩ := bindV_inv h
    obtain ⟨bs, hb, h⟩ := mapW_inv h
    obtain ⟨H', hs, h⟩ := bindH_inv h
    obtain ⟨r, rfl, hlt, hpar, o', rfl, hE⟩ := aMapUpdate_inv hs
    rcases hb with ⟨hb, _⟩ | ⟨r', hb, rfl⟩
    · cases hb
    · injection hb with hb; injection hb with hb; subst hb
      exact .inr ⟨_, _, _, h, .op (F := []) (W := [r]) (by simp only [aop, hm, hk, hy, Option.bind_some, hs]; rfl) (.set (fun E h1 h2 => by simp only [aop, hm, hk, hy, Option.bind_some, hE E h1 h2]; rfl) hlt hpar) ⟨rfl, rfl, .inr ⟨rfl, rfl, rfl⟩⟩⟩
  · -- mapEntry
    obtain ⟨m, hm, h⟩ := bindV_inv h
    obtain ⟨k, hk, h⟩ := bindV_inv h
    obtain ⟨bs, hb, h⟩ := mapW_inv h
    obtain ⟨u, H', hs, h⟩ := bindR_inv h
    obtain ⟨r, rfl, hlt, hpar, o', rfl, hE⟩ := aMapEntry_inv hs
    rcases hb with ⟨hb, _⟩ | ⟨r', hb, rfl⟩
    · cases hb
    · injection hb with hb; injection hb with hb; subst hb
      exact .inr ⟨_, _, _, h, .op (F := []) (W := [r]) (by simp only [aop, hm, hk, Option.bind_some, hs]) (.set (fun E h1 h2 => by simp only [aop, hm, hk, Option.bind_some, hE E h1 h2]) hlt hpar) ⟨rfl, rfl, .inr ⟨rfl, rfl, rfl⟩⟩⟩
  · -- entryStore
    obtain ⟨m, hm, h⟩ := bindV_inv h
    obtain ⟨k, hk, h⟩ := bindV_inv h
    obtain ⟨y, hy, h⟩ := bindV_inv h
    obtain ⟨bs, hb, h⟩ := mapW_inv h
    obtain ⟨H', hs, h⟩ := bindH_inv h
    obtain ⟨r, rfl, hlt, hpar, o', rfl, hE⟩ := aEntryStore_inv hs
    rcases hb with ⟨hb, _⟩ | ⟨r', hb, rfl⟩
    · cases hb
    · injection hb with hb; injection hb with hb; subst hb
      exact .inr ⟨_, _, _, h, .op (F := []) (W := [r]) (by simp only [aop, hm, hk, hy, Option.bind_some, hs]; rfl) (.set (fun E h1 h2 => by simp only [aop, hm, hk, hy, Option.bind_some, hE E h1 h2]; rfl) hlt hpar) ⟨rfl, rfl, .inr ⟨rfl, rfl, rfl⟩⟩⟩
  · -- append
    rename_i args ts
    obtain ⟨vs, hvs, h⟩ := bindL_inv h
    unfold apW at h
    split at h
    · rename_i s x
      obtain ⟨u, H', hu, h⟩ := bindR_inv h
      have hap : ∃ t xt, ts.toList = [t, xt] := by
        unfold aBuiltin at hu
        rcases hts : ts.toList with _ | ⟨t, _ | ⟨xt, _ | ⟨y, l⟩⟩⟩
        · rw [hts] at hu; cases hu
        · rw [hts] at hu; cases hu
        · exact ⟨t, xt, rfl⟩
        · rw [hts] at hu; cases hu
      obtain ⟨t, xt, ht⟩ := hap
      have hb : ∀ E, aBuiltin cx.P cx.T .append ts [s, x] E = aAppend cx.T t xt s x E := fun E => by simp only [aBuiltin, ht]
      have hu' := hu
      rw [hb] at hu
      have hL := aAppend_local hg hu
      refine .inr ⟨u, H', _, h, .op (F := rowOf x) (W := rowsOf H s) (by simp only [aop, hvs, Option.bind_some]; exact hu') ?_ ⟨rfl, rfl, .inl ⟨rfl, rfl⟩⟩⟩
      have e : aop cx.P cx.T cx.G τ (.call { callee := .builtin .append, args := args, argTypes := ts }) = aAppend cx.T t xt s x := by
        funext E
        simp only [aop, hvs, Option.bind_some, hb]
      rw [e]
      exact hL
    · cases h
  · -- len
    rename_i args ts
    obtain ⟨vs, hvs, h⟩ := bindL_inv h
    unfold lnW at h
    split at h
    · rename_i a n c
      obtain ⟨u, H', hu, h⟩ := bindR_inv h
      refine .inl ⟨u, h, .pure ?_ rfl rfl⟩
      simp only [aop, hvs, Option.bind_some]
      unfold aBuiltin at hu ⊢
      rcases hts : ts.toList with _ | ⟨t, l⟩
      · rw [hts] at hu; cases hu
      · rw [hts] at hu
        obtain ⟨w, hw, he⟩ := Option.map_eq_some_iff.1 hu
        injection he with h1 h2; subst h1
        show (aLen cx.T t (.slice a n c) (viewL [] [] H)).map (·, viewL [] [] H) = _
        rw [aLen_slice _ _ _ _ _ _ H, hw]; rfl
    · rename_i s
      obtain ⟨u, H', hu, h⟩ := bindR_inv h
      refine .inl ⟨u, h, .pure ?_ rfl rfl⟩
      simp only [aop, hvs, Option.bind_some]
      unfold aBuiltin at hu ⊢
      rcases hts : ts.toList with _ | ⟨t, l⟩
      · rw [hts] at hu; cases hu
      · rw [hts] at hu
        obtain ⟨w, hw, he⟩ := Option.map_eq_some_iff.1 hu
        injection he with h1 h2; subst h1
        show (aLen cx.T t (.string s) (viewL [] [] H)).map (·, viewL [] [] H) = _
        rw [aLen_string _ _ _ _ H, hw]; rfl
    · cases h
  · -- calls
    rename_i f args ts
    obtain ⟨fv, hf, h⟩ := bindV_inv h
    obtain ⟨vs, hvs, h⟩ := bindL_inv h
    unfold clW at h
    split at h
    · rename_i g first cap _
      have hg' : acallee cx.G τ (.call { callee := .value f, args := args, argTypes := ts }) = some (g, first.toList ++ vs ++ cap.toList) := by simp only [acallee, hf, hvs]
      cases near with
      | true =>
        obtain ⟨u, H', hu, hL, h⟩ := bindR_inv (show bindR _ _ from h)
        exact .inr ⟨u, H', _, h, .near hg' hu hL ⟨rfl, rfl, .inl ⟨rfl, rfl⟩⟩⟩
      | false =>
        obtain ⟨u, H', hu, hn, h⟩ := bindR_inv (show bindR _ _ from h)
        exact .inr ⟨u, H', _, h, .call hg' hu hn rfl⟩
    · cases h
  · -- binOp
    obtain ⟨v, hv, h⟩ := bindV_inv h
    obtain ⟨u, hu, h⟩ := bindV_inv h
    obtain ⟨r, hr, h⟩ := bindV_inv h
    obtain ⟨y, hy, hf⟩ := Option.bind_eq_some_iff.1 hr
    refine .inl ⟨r, h, .pure ?_ rfl rfl⟩
    split at hf
    · rename_i hfl
      injection hf with hf; subst hf
      simp only [aop, hv, hu, Option.bind_some, okFlat, hy, if_pos hfl]
    · cases hf
  · obtain ⟨v, hv, h⟩ := bindV_inv h
    exact .inl ⟨v, h, .pure (by simp only [aop, hv]; rfl) rfl rfl⟩
  · obtain ⟨v, hv, h⟩ := bindV_inv h
    exact .inl ⟨v, h, .pure (by simp only [aop, hv]; rfl) rfl rfl⟩
  · -- pick
    unfold ifW at h
    split at h
    · rename_i b hb
      cases b with
      | true =>
        obtain ⟨v, hv, h⟩ := bindV_inv (h.1 rfl)
        exact .inl ⟨v, h, .pure (by simp only [aop, hb, hv]; rfl) rfl rfl⟩
      | false =>
        obtain ⟨v, hv, h⟩ := bindV_inv (h.2 rfl)
        exact .inl ⟨v, h, .pure (by simp only [aop, hb, hv]; rfl) rfl rfl⟩
    · cases h
  · -- build
    obtain ⟨x, hx, h⟩ := bindP_inv h
    obtain ⟨v, hv, h⟩ := bindV_inv h
    exact .inl ⟨v, h, .pure (by simp only [aop, hx, Option.bind_some, hv]; rfl) rfl rfl⟩
  · -- nilCheck
    obtain ⟨v, hv, h⟩ := bindV_inv h
    unfold nlW at h
    split at h
    · rename_i p
      exact .inl ⟨_, h, .pure (by simp only [aop, hv]) rfl rfl⟩
    · cases h
  · -- unOp
    obtain ⟨v, hv, h⟩ := bindV_inv h
    obtain ⟨r, hr, h⟩ := bindV_inv h
    obtain ⟨y, hy, hf⟩ := Option.bind_eq_some_iff.1 hr
    refine .inl ⟨r, h, .pure ?_ rfl rfl⟩
    split at hf
    · rename_i hfl
      injection hf with hf; subst hf
      simp only [aop, hv, Option.bind_some, okFlat, hy, if_pos hfl]
    · cases hf
  · -- convert
    obtain ⟨v, hv, h⟩ := bindV_inv h
    unfold cvW at h
    split at h
    · obtain ⟨u, R, hu, rfl, h⟩ := bindR_inv h
      exact .inl ⟨u, h, .pure (by simp only [aop, hv, Option.bind_some]; exact hu) rfl rfl⟩
    · cases h
  · obtain ⟨v, hv, h⟩ := bindV_inv h
    obtain ⟨u, hu, h⟩ := bindV_inv h
    exact .inl ⟨u, h, .pure (by simp only [aop, hv, Option.bind_some, hu]; rfl) rfl rfl⟩
  · obtain ⟨v, hv, h⟩ := bindV_inv h
    obtain ⟨u, hu, h⟩ := bindV_inv h
    exact .inl ⟨u, h, .pure (by simp only [aop, hv, Option.bind_some, hu]; rfl) rfl rfl⟩
  · obtain ⟨v, hv, h⟩ := bindV_inv h
    obtain ⟨i, hi, h⟩ := bindV_inv h
    obtain ⟨u, hu, h⟩ := bindV_inv h
    exact .inl ⟨u, h, .pure (by simp only [aop, hv, hi, Option.bind_some, hu]; rfl) rfl rfl⟩
  · obtain ⟨v, hv, h⟩ := bindV_inv h
    obtain ⟨i, hi, h⟩ := bindV_inv h
    obtain ⟨u, hu, h⟩ := bindV_inv h
    exact .inl ⟨u, h, .pure (by simp only [aop, hv, hi, Option.bind_some, hu]; rfl) rfl rfl⟩
  · obtain ⟨v, hv, h⟩ := bindV_inv h
    obtain ⟨u, hu, h⟩ := bindV_inv h
    exact .inl ⟨u, h, .pure (by simp only [aop, hv, Option.bind_some, hu]; rfl) rfl rfl⟩
  · cases h

/-! ### A region's steps -/
theorem Rel.grew {G : Nat} {μ : Mu} {H : AHeap} {w : World} (hR : Rel G μ H w) : Grew H := fun i o h p hp => by
  obtain ⟨q, hq⟩ := hR.plt i o p h hp
  exact ⟨hR.fin p q hq, fun o' h' => hR.ro p i o' o h' h hp⟩
theorem TRel.restr {μ : Mu} {τ : Tmps} {tmps : Array Value} (h : TRel μ N τ tmps) (l : List Nat) : TRel μ N (restr τ l) tmps := ⟨h.size, fun t => by
  rw [tget_restr]
  split
  · exact h.at_ t
  · exact .any _⟩
/-- There is a world that says the same. -/
def Lives (cx : Cx) (N : Nat) (τ : Tmps) (H : AHeap) : Prop := ∃ (μ : Mu) (a : Act) (w : World), Rel cx.G μ H w ∧ TRel μ N τ a.tmps

theorem view_rel {G : Nat} {μ : Mu} {H : AHeap} {w : World} (hR : Rel G μ H w) : Rel G μ (viewL [] [] H) w := by
  have no : ∀ i o, (viewL [] [] H).get i = some o → False := fun i o h => by rw [get_viewL] at h; simp [inL] at h
  exact ⟨fun i o h => (no i o h).elim, fun i p h => hR.fin i p h, hR.base, hR.glob, fun i j oi oj pi pj _ h => (no _ _ h).elim, fun i j oi oj h => (no _ _ h).elim, fun i o j h => (no _ _ h).elim, fun i j oi oj pi pj h => (no _ _ h).elim⟩
theorem view_stay {G : Nat} {μ μ' : Mu} {H : AHeap} {w w' : World} (hR : Rel G μ H w) (hR' : Rel G μ' (viewL [] [] H) w') (t : Tn μ (viewL [] [] H) w μ' (viewL [] [] H) w') : Rel G μ H w' ∧ μ'.le μ := by
  have no : ∀ b, ¬ Img μ (viewL [] [] H) b := by
    rintro b ⟨i, o, p, h, _⟩
    rw [get_viewL] at h; simp [inL] at h
  have same : ∀ k, k < w.heap.size → w'.heap[k]? = w.heap[k]? := fun k hk => t.ext.block k hk (no k)
  refine ⟨⟨fun i o h => ?_, hR.fin, hR.base, hR.glob, hR.sep, hR.ro, hR.plt, hR.pend⟩, fun i p h => ?_⟩
  · obtain ⟨p, x, h1, h2, h3⟩ := hR.dom i o h
    exact ⟨p, x, h1, by rw [same _ (Array.getElem?_eq_some_iff.1 h2).1]; exact h2, h3⟩
  · have := t.old i (hR'.fin i p h)
    rw [← this]; exact h

theorem Lives.put {τ τ' : Tmps} {H' : AHeap} {μ' : Mu} {dst : Option Tmp} {v v' : Value} {a : Act} {w' : World} (hR : Rel cx.G μ' H' w') (hT : TRel μ' N τ a.tmps) (hv : VRel μ' v v') (hp : aput N dst v τ = some τ') : Lives cx N τ' H' :=
  ⟨μ', a.put dst v', w', hR, aput_ok hT hv hp⟩

theorem RegRes.lives (hc : CxOK cx) {o : Oper} {τ τ' : Tmps} {H H' : AHeap} {v : Value} {e : Option Eff} (h : RegRes cx o.op (restr τ (o.looksAt ops)) H v H' e) (hL : Lives cx N τ H) (hp : aput N o.dst v τ = some τ') : Lives cx N τ' H' := by
  obtain ⟨μ, a, w, hR, hT⟩ := hL
  have hT' := hT.restr (o.looksAt ops)
  have fromCall : ∀ g vs, acallee cx.G (restr τ (o.looksAt ops)) o.op = some (g, vs) → callS cx g vs H = some (v, H') → Lives cx N τ' H' := by
    intro g vs hg hcall
    obtain ⟨vs', k1, k2⟩ := acallee_ok (a := a) hR hT' hg
    obtain ⟨fn, f1, f2⟩ := callS_ok hc g vs H v H' hcall
    rcases f2 with ⟨hb, hA⟩ | ⟨hb, hfl, hx, hv, rfl⟩
    · obtain ⟨e1, w1, fr, hq, _⟩ := hA μ w vs' hR k1 []
      obtain ⟨v1, v', H1, μ', rfl, q1, q2, q3, rfl, rfl⟩ := hq
      exact Lives.put q2 (hT.mono q3.le) q1 hp
    · exact Lives.put hR hT (flat_rel 1 _ hv) hp
  cases h with
  | pure h1 h2 h3 =>
    subst h2
    obtain ⟨n, w', μ', k1, k2, k3, k4⟩ := aop_ok (a := a) hc.tb (view_rel hR) hT' h1
    obtain ⟨r1, r2⟩ := view_stay hR k3 k4
    rcases k2 with ⟨v', _, hv⟩ | ⟨_, hv⟩
    · exact Lives.put r1 hT (hv.mono r2) hp
    · exact Lives.put (v' := undef) r1 hT (by have hv : v = undef := hv; rw [hv]; exact .undef μ) hp
  | op h1 h2 h3 =>
    obtain ⟨n, w', μ', k1, k2, k3, k4⟩ := aop_ok (a := a) hc.tb hR hT' h1
    rcases k2 with ⟨v', _, hv⟩ | ⟨_, hv⟩
    · exact Lives.put k3 (hT.mono k4.le) hv hp
    · exact Lives.put (v' := undef) k3 (hT.mono k4.le) (by have hv : v = undef := hv; rw [hv]; exact .undef μ') hp
  | call h1 h2 h3 h4 => exact fromCall _ _ h1 h2
  | near h1 h2 h3 h4 => exact fromCall _ _ h1 h2

/-- What was declared of a step. -/
def Decl (s : Stp) (e : Option Eff) : Prop := match e with
  | none => s.foot = .ids [] ∧ s.wr = some [] ∧ s.h.next = s.R.next
  | some (.some F W a b) => s.foot = .ids F ∧ s.wr = some W ∧ ((a = s.h.next ∧ b = s.R.next) ∨ (s.h.next = s.R.next ∧ a = 0 ∧ b = 0))
  | some .all => True
def Nc (s t : Stp) : Prop := noclash s.foot s.h.next t = true ∧ noclash t.foot t.h.next s = true
theorem Nc.symm {s t : Stp} (h : Nc s t) : Nc t s := ⟨h.2, h.1⟩
theorem nc_pure {s t : Stp} (h : Decl s none) : Nc s t := by
  obtain ⟨h1, h2, h3⟩ := h
  unfold Nc
  constructor
  · rw [h1]
    unfold noclash
    split
    · rfl
    · simp [Foot.has, inL, clashNew]
  · unfold noclash
    rw [h2]
    simp only [List.all_nil, Bool.true_and, Bool.not_eq_true']
    unfold clashNew
    split
    · simp only [List.any_eq_false]
      intro i _ hh
      have := inR_iff.1 hh
      omega
    · simp only [Bool.not_eq_false', Bool.or_eq_true, Nat.ble_eq]
      exact .inl (.inl (by omega))
theorem nc_apart {s t : Stp} {e e' : Eff} (hs : Decl s (some e)) (ht : Decl t (some e')) (h : apart e e') : Nc s t := by
  cases e with
  | all => cases e' <;> cases h
  | some F W a b =>
    cases e' with
    | all => cases h
    | some F' W' a' b' =>
      obtain ⟨⟨a1, a2⟩, b1, b2⟩ := h
      obtain ⟨s1, s2, s3⟩ := hs
      obtain ⟨t1, t2, t3⟩ := ht
      unfold Nc
      rw [s1, t1]
      refine ⟨noclash_of t2 a1 fun i hi => ?_, noclash_of s2 b1 fun i hi => ?_⟩
      · rcases t3 with ⟨rfl, rfl⟩ | ⟨h, _⟩
        · exact a2 i hi
        · omega
      · rcases s3 with ⟨rfl, rfl⟩ | ⟨h, _⟩
        · exact b2 i hi
        · omega

theorem clean_at {un : List Nat} {e : Eff} : ∀ {prev : List (Nat × Eff)}, clean un prev e → ∀ k e', (k, e') ∈ prev → k ∈ un → apart e e' := by
  intro prev
  induction prev with
  | nil => intro _ k e' h; cases h
  | cons x l ih =>
    obtain ⟨k0, e0⟩ := x
    intro h k e' hm hk
    obtain ⟨h1, h2⟩ := h
    rcases List.mem_cons.1 hm with h | h
    · injection h with a b; subst a; subst b; exact h1 hk
    · exact ih h2 k e' h hk

/-- What is known of a region's steps. -/
structure Steps2 (cx : Cx) (N : Nat) (ops : Array Oper) (l : List Oper) (inf : Info) (j : Nat) (prev : List (Nat × Eff)) (τ : Tmps) (H : AHeap) (ps : List Stp) (f : St) : Prop where
  len : ps.length = l.length
  first : stAt ps f 0 = (τ, H)
  last : stAt ps f ps.length = f
  ok : ∀ i o, l[i]? = some o → ∃ sp, ps[i]? = some sp ∧ sp.o = o ∧ sp.rd = o.looksAt ops ∧ SOK cx N ops (j + i) sp (stAt ps f (i + 1))
  old : ∀ (b : Nat) (t : Stp) (rd un : List Nat) (nr : Bool), ps[b]? = some t → inf[b]? = some (rd, un, nr) → ∀ (k : Nat) (e : Eff) (s : Stp), (k, e) ∈ prev → k ∈ un → Decl s (some e) → Nc s t
  pairs : ∀ (a b : Nat) (s t : Stp) (rd un : List Nat) (nr : Bool), a < b → ps[a]? = some s → ps[b]? = some t → inf[b]? = some (rd, un, nr) → (j + a) ∈ un → Nc s t

theorem RegRes.step (hc : CxOK cx) {j : Nat} {o : Oper} {τ τ' : Tmps} {H H' : AHeap} {v : Value} {e : Option Eff} (hj : ops[j]? = some o) (hw : awanted ops (restr τ (o.looksAt ops)) o = some true) (h : RegRes cx o.op (restr τ (o.looksAt ops)) H v H' e) (hp : aput N o.dst v τ = some τ') :
    ∃ sp : Stp, sp.o = o ∧ sp.τ = τ ∧ sp.h = H ∧ sp.rd = o.looksAt ops ∧ SOK cx N ops j sp (τ', H') ∧ Decl sp e := by
  cases h with
  | pure h1 h2 h3 =>
    subst h2; subst h3
    obtain ⟨R, r1, r2⟩ := sok_local (F := []) (W := []) (H' := H') hc hj hw ⟨⟨_, h1, rfl, fun i => by rw [if_neg]; simp⟩, Nat.le_refl _, rfl⟩ hp
    exact ⟨_, rfl, rfl, rfl, rfl, r2, rfl, rfl, r1.symm⟩
  | op h1 h2 h3 =>
    obtain ⟨R, r1, r2⟩ := sok_local hc hj hw h2 hp
    refine ⟨_, rfl, rfl, rfl, rfl, r2, ?_⟩
    cases e with
    | none =>
      obtain ⟨q1, q2, q3⟩ := h3
      subst q2
      exact ⟨by simp only [mkStp, q1], rfl, by simp only [mkStp, r1]; exact q3⟩
    | some e =>
      cases e with
      | all => trivial
      | some F1 W1 a1 b1 =>
        obtain ⟨q1, q2, q3⟩ := h3
        subst q1; subst q2
        refine ⟨rfl, rfl, ?_⟩
        simp only [mkStp, r1]
        exact q3
  | call h1 h2 h3 h4 =>
    subst h4
    exact ⟨_, rfl, rfl, rfl, rfl, sok_call hc (callS_ok hc) hj hw h1 h2 h3 hp, trivial⟩
  | near h1 h2 h3 h4 =>
    obtain ⟨R, r1, r2⟩ := sok_callN hc (callS_ok hc) hj hw h1 h3 hp
    refine ⟨_, rfl, rfl, rfl, rfl, r2, ?_⟩
    cases e with
    | none =>
      obtain ⟨q1, q2, q3⟩ := h4
      exact ⟨rfl, rfl, by simp only [mkStp, r1]; exact q3⟩
    | some e =>
      cases e with
      | all => trivial
      | some F1 W1 a1 b1 =>
        obtain ⟨q1, q2, q3⟩ := h4
        subst q1; subst q2
        refine ⟨rfl, rfl, ?_⟩
        simp only [mkStp, r1]
        exact q3

theorem Steps2.cons {l : List Oper} {inf : Info} {j : Nat} {prev : List (Nat × Eff)} {τ τ' : Tmps} {H H' : AHeap} {ps : List Stp} {f : St} {o : Oper} {sp : Stp} {rd un : List Nat} {nr : Bool} {e : Option Eff}
    (h1 : sp.o = o) (h2 : sp.τ = τ) (h3 : sp.h = H) (hrd : sp.rd = o.looksAt ops) (h4 : SOK cx N ops j sp (τ', H')) (h5 : Decl sp e) (hcl : ∀ e0, e = some e0 → clean un prev e0)
    (h : Steps2 cx N ops l inf (j + 1) (match e with | some e => (j, e) :: prev | none => prev) τ' H' ps f) : Steps2 cx N ops (o :: l) ((rd, un, nr) :: inf) j prev τ H (sp :: ps) f where
  len := by simp [h.len]
  first := by simp [stAt, h2, h3]
  last := by have := h.last; simp [stAt] at this ⊢
  ok := fun i o' hi => by
    cases i with
    | zero =>
      simp at hi
      subst hi
      refine ⟨sp, rfl, h1, hrd, ?_⟩
      have : stAt (sp :: ps) f (0 + 1) = (τ', H') := by rw [← h.first]; simp [stAt]
      rw [this]
      exact h4
    | succ i =>
      obtain ⟨sp', m1, m2, m3, m4⟩ := h.ok i o' (by simpa using hi)
      refine ⟨sp', by simpa using m1, m2, m3, ?_⟩
      have : stAt (sp :: ps) f (i + 1 + 1) = stAt ps f (i + 1) := by simp [stAt]
      rw [this, show j + (i + 1) = j + 1 + i by omega]
      exact m4
  old := fun b t rd' un' nr' hb hi k e' s hm hk hD => by
    cases b with
    | zero =>
      simp at hb hi
      obtain ⟨rfl, rfl, rfl⟩ := hi
      subst hb
      cases e with
      | none => exact (nc_pure h5).symm
      | some e0 => exact (nc_apart h5 hD (clean_at (hcl e0 rfl) k e' hm hk)).symm
    | succ b => exact h.old b t rd' un' nr' (by simpa using hb) (by simpa using hi) k e' s (by cases e <;> simp [hm]) hk hD
  pairs := fun a b s t rd' un' nr' hab ha hb hi hm => by
    cases b with
    | zero => omega
    | succ b =>
      cases a with
      | zero =>
        simp at ha
        subst ha
        cases e with
        | none => exact nc_pure h5
        | some e0 => exact h.old b t rd' un' nr' (by simpa using hb) (by simpa using hi) j e0 sp (by simp) (by simpa using hm) h5
      | succ a => exact h.pairs a b s t rd' un' nr' (by omega) (by simpa using ha) (by simpa using hb) (by simpa using hi) (by rw [show j + 1 + a = j + (a + 1) by omega]; exact hm)

theorem regL_ok (hc : CxOK cx) {K : Tmps → AHeap → Prop} : ∀ (l : List Oper) (inf : Info) (j : Nat) (prev : List (Nat × Eff)) (τ : Tmps) (H : AHeap), (∀ i o, l[i]? = some o → ops[j + i]? = some o) → (∀ (i : Nat) (o : Oper) (x : List Nat × List Nat × Bool), l[i]? = some o → inf[i]? = some x → x.1 = o.looksAt ops) → Lives cx N τ H →
    regL cx N ops.toList K l inf j prev τ H → ∃ ps f, Steps2 cx N ops l inf j prev τ H ps f ∧ K f.1 f.2 := by
  intro l
  induction l with
  | nil =>
    intro inf j prev τ H _ _ _ h
    exact ⟨[], (τ, H), ⟨rfl, rfl, rfl, fun i o h => (by simp at h), fun b t _ _ _ h => (by simp at h), fun a b s t _ _ _ _ h => (by simp at h)⟩, h⟩
  | cons o l ih =>
    intro inf j prev τ H hat hinf hL h
    cases inf with
    | nil => cases h
    | cons x inf =>
      obtain ⟨rd, un, near⟩ := x
      have hrd : rd = o.looksAt ops := hinf 0 o (rd, un, near) rfl rfl
      have hj : ops[j]? = some o := hat 0 o rfl
      have ih' := fun prev τ H => ih inf (j + 1) prev τ H (fun i o' h => by rw [show j + 1 + i = j + (i + 1) by omega]; exact hat (i + 1) o' (by simpa using h)) (fun i o' x h1 h2 => hinf (i + 1) o' x (by simpa using h1) (by simpa using h2))
      subst hrd
      simp only [regL] at h
      have dst : ∀ (v : Value) (H' : AHeap) (prev' : List (Nat × Eff)), (match o.dst with
          | none => regL cx N ops.toList K l inf (j + 1) prev' τ H'
          | some d => d < N ∧ regL cx N ops.toList K l inf (j + 1) prev' (τ.put d (some v)) H') → ∃ τ', aput N o.dst v τ = some τ' ∧ regL cx N ops.toList K l inf (j + 1) prev' τ' H' := by
        intro v H' prev' h
        split at h
        · rename_i hd; exact ⟨τ, by rw [hd]; rfl, h⟩
        · rename_i d hd; exact ⟨_, by rw [hd]; exact if_pos h.1, h.2⟩
      have yes : awanted ops (restr τ (o.looksAt ops)) o = some true → regOp cx near o.op (restr τ (o.looksAt ops)) H
          (fun v H' e => clean un prev e ∧ match o.dst with
            | none => regL cx N ops.toList K l inf (j + 1) ((j, e) :: prev) τ H'
            | some d => d < N ∧ regL cx N ops.toList K l inf (j + 1) ((j, e) :: prev) (τ.put d (some v)) H')
          (fun v => match o.dst with
            | none => regL cx N ops.toList K l inf (j + 1) prev τ H
            | some d => d < N ∧ regL cx N ops.toList K l inf (j + 1) prev (τ.put d (some v)) H) → ∃ ps f, Steps2 cx N ops (o :: l) ((o.looksAt ops, un, near) :: inf) j prev τ H ps f ∧ K f.1 f.2 := by
        intro hw hr
        have hg : Grew H := by obtain ⟨μ, a, w, hR, _⟩ := hL; exact hR.grew
        rcases regOp_ok hg hr with ⟨v, hk, hres⟩ | ⟨v, H', e, ⟨hcl, hk⟩, hres⟩
        · obtain ⟨τ', hp, hk⟩ := dst v H prev hk
          obtain ⟨sp, s1, s2, s3, s4, s5, s6⟩ := hres.step hc hj hw hp
          obtain ⟨ps, f, hS, hK⟩ := ih' prev τ' H (hres.lives hc hL hp) hk
          exact ⟨sp :: ps, f, .cons s1 s2 s3 s4 s5 s6 (fun e0 h => by cases h) hS, hK⟩
        · obtain ⟨τ', hp, hk⟩ := dst v H' _ hk
          obtain ⟨sp, s1, s2, s3, s4, s5, s6⟩ := hres.step hc hj hw hp
          obtain ⟨ps, f, hS, hK⟩ := ih' _ τ' H' (hres.lives hc hL hp) hk
          exact ⟨sp :: ps, f, .cons s1 s2 s3 s4 s5 s6 (fun e0 h => by injection h with h; subst h; exact hcl) hS, hK⟩
      have no : awanted ops (restr τ (o.looksAt ops)) o = some false → (match o.dst with
            | none => regL cx N ops.toList K l inf (j + 1) prev τ H
            | some d => d < N ∧ regL cx N ops.toList K l inf (j + 1) prev (τ.put d (some undef)) H) → ∃ ps f, Steps2 cx N ops (o :: l) ((o.looksAt ops, un, near) :: inf) j prev τ H ps f ∧ K f.1 f.2 := by
        intro hw hk
        obtain ⟨τ', hp, hk⟩ := dst undef H prev hk
        have hL' : Lives cx N τ' H := by
          obtain ⟨μ, a, w, hR, hT⟩ := hL
          exact Lives.put hR hT (.undef μ) hp
        obtain ⟨ps, f, hS, hK⟩ := ih' prev τ' H hL' hk
        exact ⟨_ :: ps, f, .cons (e := none) rfl rfl rfl rfl (sok_skip hc hj hw hp) ⟨rfl, rfl, rfl⟩ (fun e0 h => by cases h) hS, hK⟩
      split at h
      · rename_i hgd
        exact yes (by unfold awanted; rw [hgd]) h
      · rename_i g want hgd
        unfold gdW at h
        split at h
        · rename_i b hb
          obtain ⟨d, hd, hv⟩ := Option.map_eq_some_iff.1 hb
          have hd : (ops[g]?).bind (·.dst) = some d := by simpa using hd
          by_cases e : b = want
          · exact yes (by unfold awanted; rw [hgd]; simp only [hd, hv, e, beq_self_eq_true]) (h.1 e)
          · have e' : b = !want := by cases b <;> cases want <;> simp_all
            exact no (by unfold awanted; rw [hgd]; simp only [hd, hv, e']; cases want <;> rfl) (h.2 e')
        · rename_i c hb
          obtain ⟨d, hd, hv⟩ := Option.map_eq_some_iff.1 hb
          have hd : (ops[g]?).bind (·.dst) = some d := by simpa using hd
          exact no (by unfold awanted; rw [hgd]; simp only [hd, hv]) h
        · cases h

/-! ### The rule -/
theorem noTo_ok {s t : Stp} (h : noTo s.rd s.o t.o = true) : noT s t = true := h
theorem statPrev_at {M : List Nat} {j : Nat} {rd un : List Nat} {o : Oper} : ∀ (l : List Oper) (inf : Info) (k : Nat), statPrev M j rd un o l inf k = true → ∀ a o' x, l[a]? = some o' → inf[a]? = some x → k + a < j →
    befB M (k + a) j = true ∨ ((k + a) ∈ un ∧ noTo x.1 o' o = true ∧ noTo rd o o' = true) := by
  intro l
  induction l with
  | nil => intro inf k _ a o' x h; simp at h
  | cons y l ih =>
    intro inf k h a o' x ha hx hlt
    cases inf with
    | nil => simp at hx
    | cons z inf =>
      obtain ⟨rd', un', nr'⟩ := z
      simp only [statPrev, Bool.and_eq_true, Bool.or_eq_true, Nat.ble_eq] at h
      cases a with
      | zero =>
        simp at ha hx
        subst ha; subst hx
        rcases h.1 with h1 | h1 | h1
        · omega
        · exact .inl h1
        · exact .inr ⟨inL_iff.1 h1.1.1, h1.1.2, h1.2⟩
      | succ a =>
        have := ih inf (k + 1) h.2 a o' x (by simpa using ha) (by simpa using hx) (by omega)
        rw [show k + (a + 1) = k + 1 + a by omega]
        exact this
theorem statGo_at {M : List Nat} {inf0 : Info} : ∀ (l : List Oper) (inf : Info) (j : Nat), statGo M ops inf0 l inf j = true → ∀ i o, l[i]? = some o → ∃ x, inf[i]? = some x ∧ x.1 = o.looksAt ops ∧ statPrev M (j + i) x.1 x.2.1 o ops.toList inf0 0 = true := by
  intro l
  induction l with
  | nil => intro inf j _ i o h; simp at h
  | cons y l ih =>
    intro inf j h i o hi
    cases inf with
    | nil => simp [statGo] at h
    | cons z inf =>
      obtain ⟨rd, un, nr⟩ := z
      simp only [statGo, Bool.and_eq_true, beq_iff_eq] at h
      cases i with
      | zero =>
        simp at hi
        subst hi
        exact ⟨_, rfl, h.1.1, h.1.2⟩
      | succ i =>
        obtain ⟨x, h1, h2, h3⟩ := ih inf (j + 1) h.2 i o (by simpa using hi)
        exact ⟨x, by simpa using h1, h2, by rw [show j + (i + 1) = j + 1 + i by omega]; exact h3⟩

/-- A region in whatever order. -/
theorem codeW_any (hc : CxOK cx) {id : Nat} {l : List Oper} {Q : PostW} {τ : Tmps} {H : AHeap} (inf : Info) (hs : statAll l.toArray inf = true) (h : Lives cx N τ H → regL cx N l (Q .normal) l inf 0 [] τ H) : codeW cx N (.region id l.toArray true) Q τ H := by
  rw [codeW_draws]
  intro μ a w hR hT hd
  have hL : Lives cx N τ H := ⟨μ, a, w, hR, hT⟩
  have hM : Nat.beq (masksGo l.toArray.toList []).length l.toArray.size = true ∧ ordOkGo (masksGo l.toArray.toList []) l.toArray.toList 0 = true ∧ statGo (masksGo l.toArray.toList []) l.toArray inf l.toArray.toList inf 0 = true := by
    unfold statAll at hs
    simp only [Bool.and_eq_true] at hs
    exact ⟨hs.1.1, hs.1.2, hs.2⟩
  obtain ⟨h1, h2, h3⟩ := hM
  have hO := ord_ok (Nat.eq_of_beq_eq_true h1) h2
  have sg := statGo_at _ _ 0 h3
  obtain ⟨ps, f, hS, hK⟩ := regL_ok (ops := l.toArray) hc l inf 0 [] τ H (fun i o h => by simpa using h) (fun i o x h1 h2 => by
    obtain ⟨y, e1, e2, _⟩ := sg i o (by simpa using h1)
    rw [e1] at h2; injection h2 with h2; subst h2; exact e2) hL (h hL)
  have key := steps_ok (cx := cx) (N := N) (ops := l.toArray) hc (id := id) (s := (τ, H)) (f := f) (ps := ps) hO (by rw [hS.len]; simp) hS.first hS.last
    (fun j o hj => by
      obtain ⟨sp, e1, e2, _, e3⟩ := hS.ok j o (by simpa using hj)
      exact ⟨sp, e1, e2, by simpa using e3⟩)
    (fun a b s t hab ha hb => by
      have hbl : b < l.length := by rw [← hS.len]; exact (List.getElem?_eq_some_iff.1 hb).1
      have hob : l[b]? = some l[b] := List.getElem?_eq_getElem hbl
      have hoa : l[a]? = some l[a] := List.getElem?_eq_getElem (by omega)
      obtain ⟨x, x1, x2, x3⟩ := sg b l[b] (by simp)
      obtain ⟨y, y1, y2, y3⟩ := sg a l[a] (by simp)
      obtain ⟨sb, b1, b2, b3, _⟩ := hS.ok b l[b] hob
      obtain ⟨sa, a1, a2, a3, _⟩ := hS.ok a l[a] hoa
      rw [hb] at b1; injection b1 with b1; subst b1
      rw [ha] at a1; injection a1 with a1; subst a1
      rcases statPrev_at _ _ 0 x3 a l[a] y (by simp) y1 (by omega) with h | ⟨m1, m2, m3⟩
      · left; simpa using h
      · right
        obtain ⟨rdx, unx, nrx⟩ := x
        have hn := hS.pairs a b s t rdx unx nrx hab ha hb x1 m1
        unfold pairOk
        rw [hn.1, hn.2, Bool.true_and, Bool.true_and, Bool.and_eq_true]
        refine ⟨noTo_ok ?_, noTo_ok ?_⟩
        · rw [a3, a2, b2, ← y2]; exact m2
        · rw [b3, a2, b2, ← x2]; exact m3)
  exact (key.mono fun e τ1 H1 ⟨e1, e2, e3⟩ => by subst e1; subst e2; subst e3; exact hK) μ a w hR hT hd
end
end Go.Eng
