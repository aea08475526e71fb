/- The plain law of ConfGroups: groups follow one another without a gap. -/
import Derived.Test.YtkjclebafpomhaaDoorCB
set_option linter.unusedVariables false
set_option linter.unusedSimpArgs false
set_option maxRecDepth 100000
namespace Go.Proofs.YtkjclebafpomhaaDoor
open Go Go.Eng

inductive Chain : Int → List GeoD → Int → Prop
  | nil (t : Int) : Chain t [] t
  | cons {g : GeoD} {l : List GeoD} {e : Int} : 0 ≤ g.base → g.base < g.data → 1 ≤ g.blocks → g.data + g.blocks ≤ 1000000 → Chain (g.data + g.blocks) l e → Chain g.base (g :: l) e
theorem Chain.eq_nil {t e : Int} (h : Chain t [] e) : t = e := by cases h; rfl
theorem Chain.le {t e : Int} {l : List GeoD} (h : Chain t l e) : t ≤ e ∧ (l ≠ [] → t < e) := by
  induction h with
  | nil t => exact ⟨Int.le_refl _, fun h => absurd rfl h⟩
  | cons h1 h2 h3 h4 h5 ih => exact ⟨by omega, fun _ => by omega⟩
theorem Chain.under {t e : Int} {l : List GeoD} (h : Chain t l e) : ∀ (b : Int) (k : Nat), b < t → groupFrom b l k = (0, 0, false) := by
  induction h with
  | nil t => intro b k _; rfl
  | cons h1 h2 h3 h4 h5 ih =>
    intro b k hb
    unfold groupFrom
    rw [if_pos hb]
    exact ih b _ (by omega)
theorem Chain.above {t e : Int} {l : List GeoD} (h : Chain t l e) : ∀ (b : Int) (k : Nat), e ≤ b → groupFrom b l k = (0, 0, false) := by
  induction h with
  | nil t => intro b k _; rfl
  | @cons g l e h1 h2 h3 h4 h5 ih =>
    intro b k hb
    have := h5.le.1
    unfold groupFrom
    rw [if_neg (by omega), if_pos (by rw [wrap64] <;> omega)]
    exact ih b _ hb
theorem Chain.first {t e : Int} {l : List GeoD} (h : Chain t l e) (hl : l ≠ []) (k : Nat) : groupFrom t l k = ((k : Int), 0, true) := by
  cases h with
  | nil => exact absurd rfl hl
  | cons h1 h2 h3 h4 h5 =>
    unfold groupFrom
    rw [if_neg (by omega), if_neg (by rw [wrap64] <;> omega), if_pos h2]
theorem Chain.at {t e : Int} {l : List GeoD} (h : Chain t l e) : ∀ (b : Int) (k : Nat), t ≤ b → b < e → ∃ (p : Nat) (q : Int) (g : GeoD), groupFrom b l k = ((p : Int), q, true) ∧ k ≤ p ∧ l[p - k]? = some g ∧ 0 ≤ q ∧ (q ≤ g.blocks ∧ g.blocks ≤ 1000000) ∧
    (b + 1 = e → p + 1 = k + l.length) ∧ (b + 1 < e → ∃ (p' : Nat) (q' : Int), groupFrom (b + 1) l k = ((p' : Int), q', true) ∧ ((p' = p ∧ (q' = q + 1 ∨ (q' = 0 ∧ q = 0))) ∨ (p' = p + 1 ∧ q' = 0))) := by
  induction h with
  | nil t => intro b k h1 h2; omega
  | @cons g l e h1 h2 h3 h4 h5 ih =>
    intro b k hb he
    have hle := h5.le
    have w0 : IntKind.wrap .i64 (g.data + g.blocks) = g.data + g.blocks := by rw [wrap64] <;> omega
    by_cases hin : g.data + g.blocks ≤ b
    · obtain ⟨p, q, g', e1, e2, e3, e4, e5, e6, e7⟩ := ih b (k + 1) hin he
      have hp : p - k = (p - (k + 1)) + 1 := by omega
      refine ⟨p, q, g', ?_, by omega, by rw [hp, List.getElem?_cons_succ]; exact e3, e4, e5, fun h => by have := e6 h; simp; omega, fun h => ?_⟩
      · unfold groupFrom; rw [if_neg (by omega), if_pos (by rw [w0]; exact hin)]; exact e1
      · obtain ⟨p', q', f1, f2⟩ := e7 h
        refine ⟨p', q', ?_, f2⟩
        unfold groupFrom; rw [if_neg (by omega), if_pos (by rw [w0]; omega)]; exact f1
    · have hg : ∀ c : Int, g.base ≤ c → c < g.data + g.blocks → groupFrom c (g :: l) k = if c < g.data then ((k : Int), 0, true) else ((k : Int), c - g.data + 1, true) := by
        intro c h1 h2
        unfold groupFrom
        rw [if_neg (by omega), if_neg (by rw [w0]; omega)]
        split
        · rfl
        · have e1 : IntKind.wrap .i64 (c - g.data) = c - g.data := by rw [wrap64] <;> omega
          have e2 : IntKind.wrap .i64 (c - g.data + 1) = c - g.data + 1 := by rw [wrap64] <;> omega
          rw [e1, e2]
      have hb2 : b < g.data + g.blocks := by omega
      refine ⟨k, if b < g.data then 0 else b - g.data + 1, g, ?_, Nat.le_refl _, by simp, by split <;> omega, ⟨by split <;> omega, by omega⟩, fun h => ?_, fun h => ?_⟩
      · rw [hg b hb hb2]; split <;> rfl
      · have : l = [] := by
          by_cases hl : l = []
          · exact hl
          · have := hle.2 hl; omega
        subst this; simp
      · by_cases hb3 : b + 1 < g.data + g.blocks
        · refine ⟨k, if b + 1 < g.data then 0 else b + 1 - g.data + 1, ?_, .inl ⟨rfl, ?_⟩⟩
          · rw [hg _ (by omega) hb3]; split <;> rfl
          · by_cases c1 : b + 1 < g.data
            · rw [if_pos c1, if_pos (by omega)]; exact .inr ⟨rfl, rfl⟩
            · rw [if_neg c1]
              by_cases c2 : b < g.data
              · rw [if_pos c2]; left; omega
              · rw [if_neg c2]; left; omega
        · have hbe : b + 1 = g.data + g.blocks := by omega
          refine ⟨k + 1, 0, ?_, .inr ⟨rfl, rfl⟩⟩
          unfold groupFrom
          rw [if_neg (by omega), if_pos (by rw [w0]; omega), hbe]
          exact h5.first (fun hl => by subst hl; have := h5.eq_nil; omega) (k + 1)
theorem geos_chain : ∀ (regs : List RegD) (t : Int), 0 ≤ t → t + 600 * regs.length ≤ 100000 → (∀ r ∈ regs, r.sound = true) →
    Chain t (geosFrom t regs).1 (geosFrom t regs).2 ∧ (geosFrom t regs).2 ≤ t + 600 * regs.length ∧ (geosFrom t regs).1.length = regs.length ∧ ∀ (i : Nat) g, (geosFrom t regs).1[i]? = some g → g.blocks = (regs.getD i zeroReg).blocks := by
  intro regs
  induction regs with
  | nil => intro t h0 h1 _; exact ⟨.nil t, by simp [geosFrom], rfl, by simp [geosFrom]⟩
  | cons r l ih =>
    intro t h0 h1 hs
    have hr := hs r (by simp)
    simp only [RegD.sound, Bool.and_eq_true, decide_eq_true_eq] at hr
    obtain ⟨⟨⟨⟨⟨⟨a1, a2⟩, a3, a4⟩, _⟩, _⟩, _⟩, _⟩ := hr
    simp only [List.length_cons] at h1
    have e1 : w64 (r.blocks + 512) = r.blocks + 512 := by unfold w64; rw [wrap64] <;> omega
    have e2 : w64 (r.blocks + 512 - 1) = r.blocks + 511 := by unfold w64; rw [wrap64] <;> omega
    have e3 : (r.blocks + 511).tdiv 512 = (r.blocks + 511) / 512 := Int.tdiv_eq_ediv_of_nonneg (by omega)
    have e4 : w64 ((r.blocks + 511) / 512) = (r.blocks + 511) / 512 := by unfold w64; rw [wrap64] <;> omega
    have f1 : w64 (r.nodes * 32) = r.nodes * 32 := by unfold w64; rw [wrap64] <;> omega
    have f2 : w64 (r.nodes * 32 + 64) = r.nodes * 32 + 64 := by unfold w64; rw [wrap64] <;> omega
    have f3 : w64 (r.nodes * 32 + 64 - 1) = r.nodes * 32 + 63 := by unfold w64; rw [wrap64] <;> omega
    have f4 : (r.nodes * 32 + 63).tdiv 64 = (r.nodes * 32 + 63) / 64 := Int.tdiv_eq_ediv_of_nonneg (by omega)
    have f5 : w64 ((r.nodes * 32 + 63) / 64) = (r.nodes * 32 + 63) / 64 := by unfold w64; rw [wrap64] <;> omega
    have g1 : w64 (t + (r.blocks + 511) / 512) = t + (r.blocks + 511) / 512 := by unfold w64; rw [wrap64] <;> omega
    have g2 : w64 (t + (r.blocks + 511) / 512 + (r.nodes * 32 + 63) / 64) = t + (r.blocks + 511) / 512 + (r.nodes * 32 + 63) / 64 := by unfold w64; rw [wrap64] <;> omega
    have hd : (geoOf t r).data = t + (r.blocks + 511) / 512 + (r.nodes * 32 + 63) / 64 := by
      simp only [geoOf, e1, e2, e3, e4, f1, f2, f3, f4, f5, g1, g2]
    have he : w64 ((geoOf t r).data + r.blocks) = (geoOf t r).data + r.blocks := by unfold w64; rw [wrap64] <;> omega
    have hb : (geoOf t r).blocks = r.blocks := rfl
    obtain ⟨h2, h3, h4, h5⟩ := ih ((geoOf t r).data + r.blocks) (by omega) (by omega) fun x hx => hs x (by simp [hx])
    simp only [geosFrom, he]
    refine ⟨?_, by simp only [List.length_cons]; omega, by simp [h4], fun i g hg => ?_⟩
    · have hc := @Chain.cons (geoOf t r) (geosFrom ((geoOf t r).data + r.blocks) l).1 (geosFrom ((geoOf t r).data + r.blocks) l).2 h0 (by rw [hd]; show t < _; omega) (by omega) (by omega) h2
      exact hc
    · cases i with
      | zero => simp at hg; subst hg; rfl
      | succ i => simp at hg; simpa using h5 i g hg
end Go.Proofs.YtkjclebafpomhaaDoor
