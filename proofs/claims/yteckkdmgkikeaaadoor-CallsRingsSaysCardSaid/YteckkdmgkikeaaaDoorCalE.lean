/-
  Plain: who reaches whom, one more in between at a time; and a table of truths in a world.
-/
import Derived.Test.YteckkdmgkikeaaaDoorCalD
import Derived.Deep.OwnRows
namespace Go.Proofs.YteckkdmgkikeaaaDoor
open Go.RowKit

/-- a table of truths -/
def Tab := Nat → Nat → Bool
def updT (T : Tab) (m k x : Nat) : Tab := fun a b => T a b || (a == k && b == x && T k m && T m x)
def rowUp (T : Tab) (m k : Nat) : Nat → Tab
  | 0 => T
  | x + 1 => updT (rowUp T m k x) m k x
def matUp (n : Nat) (T : Tab) (m : Nat) : Nat → Tab
  | 0 => T
  | k + 1 => rowUp (matUp n T m k) m k n
def fwUp (n : Nat) (T : Tab) : Nat → Tab
  | 0 => T
  | m + 1 => matUp n (fwUp n T m) m n
/-- with whom below m in between -/
def viaT (T : Tab) : Nat → Tab
  | 0 => T
  | m + 1 => fun a b => viaT T m a b || (viaT T m a m && viaT T m m b)

theorem rowUp_eq (T : Tab) (m k : Nat) : ∀ x a b, rowUp T m k x a b = (T a b || (a == k && decide (b < x) && T k m && T m b)) := by
  intro x
  induction x with
  | zero => intro a b; simp [rowUp]
  | succ x ih =>
    intro a b
    have hkm : rowUp T m k x k m = T k m := by
      rw [ih]
      cases T k m <;> simp
    have hmx : rowUp T m k x m x = T m x := by
      rw [ih]
      simp
    show (rowUp T m k x a b || (a == k && b == x && rowUp T m k x k m && rowUp T m k x m x)) = _
    rw [hkm, hmx, ih]
    by_cases hb : b = x
    · subst hb; simp
    · have h1 : (b == x) = false := by simpa using hb
      have h2 : decide (b < x + 1) = decide (b < x) := by
        rw [decide_eq_decide]
        omega
      rw [h1, h2]
      simp
theorem matUp_eq (n : Nat) (T : Tab) (m : Nat) : ∀ k a b, matUp n T m k a b = (T a b || (decide (a < k) && decide (b < n) && T a m && T m b)) := by
  intro k
  induction k with
  | zero => intro a b; simp [matUp]
  | succ k ih =>
    intro a b
    have hrow : ∀ c, matUp n T m k m c = T m c := fun c => by
      rw [ih]
      cases h : T m c <;> simp
    show rowUp (matUp n T m k) m k n a b = _
    rw [rowUp_eq, hrow, ih a b]
    have hkm : matUp n T m k k m = T k m := by rw [ih]; simp
    rw [hkm]
    by_cases ha : a = k
    · subst ha; simp
    · have h1 : (a == k) = false := by simpa using ha
      have h2 : decide (a < k + 1) = decide (a < k) := by
        rw [decide_eq_decide]
        omega
      rw [h1, h2]
      simp
theorem fwUp_eq (n : Nat) (T : Tab) : ∀ m a b, m ≤ n → a < n → b < n → fwUp n T m a b = viaT T m a b := by
  intro m
  induction m with
  | zero => intro a b _ _ _; rfl
  | succ m ih =>
    intro a b hm ha hb
    show matUp n (fwUp n T m) m n a b = (viaT T m a b || (viaT T m a m && viaT T m m b))
    rw [matUp_eq, ih a b (by omega) ha hb, ih a m (by omega) ha (by omega), ih m b (by omega) (by omega) hb]
    simp [ha, hb]
theorem viaT_mono (T : Tab) (m a b : Nat) (h : viaT T m a b = true) : viaT T (m + 1) a b = true := by
  show (viaT T m a b || _) = true
  rw [h]; rfl
theorem viaT_base (T : Tab) (a b : Nat) (h : T a b = true) : ∀ m, viaT T m a b = true
  | 0 => h
  | m + 1 => viaT_mono T m a b (viaT_base T a b h m)
theorem viaT_left (T : Tab) (m a : Nat) (h : viaT T (m + 1) a m = true) : viaT T m a m = true := by
  have h2 : (viaT T m a m || (viaT T m a m && viaT T m m m)) = true := h
  cases h3 : viaT T m a m
  · rw [h3] at h2; simp at h2
  · rfl
theorem viaT_right (T : Tab) (m b : Nat) (h : viaT T (m + 1) m b = true) : viaT T m m b = true := by
  have h2 : (viaT T m m b || (viaT T m m m && viaT T m m b)) = true := h
  cases h3 : viaT T m m b
  · rw [h3] at h2; simp at h2
  · rfl
theorem viaT_both (T : Tab) (m a b : Nat) (h1 : viaT T m a m = true) (h2 : viaT T m m b = true) : viaT T (m + 1) a b = true := by
  show (viaT T m a b || (viaT T m a m && viaT T m m b)) = true
  rw [h1, h2]; simp
theorem viaT_or {T : Tab} {m a b : Nat} (h : viaT T (m + 1) a b = true) : viaT T m a b = true ∨ (viaT T m a m = true ∧ viaT T m m b = true) := by
  have h2 : (viaT T m a b || (viaT T m a m && viaT T m m b)) = true := h
  simpa using h2
theorem viaT_trans (T : Tab) : ∀ m a c b, c < m → viaT T m a c = true → viaT T m c b = true → viaT T m a b = true := by
  intro m
  induction m with
  | zero => intro a c b hc; omega
  | succ m ih =>
    intro a c b hc h1 h2
    by_cases hcm : c = m
    · subst hcm
      exact viaT_both T c a b (viaT_left T c a h1) (viaT_right T c b h2)
    · have hc2 : c < m := by omega
      rcases viaT_or h1 with g1 | ⟨g1, g2⟩ <;> rcases viaT_or h2 with g3 | ⟨g3, g4⟩
      · exact viaT_mono T m a b (ih a c b hc2 g1 g3)
      · exact viaT_both T m a b (ih a c m hc2 g1 g3) g4
      · exact viaT_both T m a b g1 (ih m c b hc2 g2 g3)
      · exact viaT_both T m a b g1 g4

/-- one reaches another one, by steps of E among the numbers below n -/
inductive Path (n : Nat) (E : Nat → Nat → Prop) : Nat → Nat → Prop
  | refl (a : Nat) : Path n E a a
  | step {a b c : Nat} : Path n E a b → E b c → c < n → Path n E a c
theorem Path.trans {n : Nat} {E : Nat → Nat → Prop} {a b c : Nat} (h1 : Path n E a b) (h2 : Path n E b c) : Path n E a c := by
  induction h2 with
  | refl => exact h1
  | step _ e hc ih => exact .step ih e hc
theorem viaT_path {n : Nat} {T : Tab} {E : Nat → Nat → Prop} (hT : ∀ a b, a < n → b < n → T a b = true → Path n E a b) : ∀ m a b, m ≤ n → a < n → b < n → viaT T m a b = true → Path n E a b := by
  intro m
  induction m with
  | zero => intro a b _ ha hb h; exact hT a b ha hb h
  | succ m ih =>
    intro a b hm ha hb h
    rcases viaT_or h with g | ⟨g1, g2⟩
    · exact ih a b (by omega) ha hb g
    · exact (ih a m (by omega) ha (by omega) g1).trans (ih m b (by omega) (by omega) hb g2)
theorem path_viaT {n : Nat} {T : Tab} {E : Nat → Nat → Prop} (hr : ∀ a, a < n → T a a = true) (hE : ∀ a b, a < n → b < n → E a b → T a b = true) {a b : Nat} (ha : a < n) (h : Path n E a b) : b < n ∧ viaT T n a b = true := by
  induction h with
  | refl => exact ⟨ha, viaT_base T _ _ (hr _ ha) n⟩
  | step _ e hc ih => exact ⟨hc, viaT_trans T n _ _ _ ih.1 ih.2 (viaT_base T _ _ (hE _ _ ih.1 hc e) n)⟩
end Go.Proofs.YteckkdmgkikeaaaDoor
