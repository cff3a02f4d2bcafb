/- None or more times: by all ways to cut a text; the document's example. No program in sight. -/
import Derived.Test.YtaefhfldgemcnaaP4
import Derived.KernelRfl
namespace Go.Proofs.Ytaefhfldgemcnaa

theorem accB_true {n : Net} {s : List UInt8} : accB n s = true ↔ AccP n s := by
  constructor
  · intro h
    exact Classical.byContradiction fun h' => by rw [accB_no h'] at h; cases h
  · exact accB_yes
theorem acc_true (t : T) (s : List UInt8) : accB (netN t) s = true ↔ Lang t s := accB_true.trans (acc_lang t s)

theorem Star.snoc {A : List UInt8 → Prop} {u v : List UInt8} (h : Star A u) (k : A v) : Star A (u ++ v) := by
  induction h with
  | nil =>
    have := Star.cons k Star.nil
    simpa using this
  | cons h1 _ ih => rw [List.append_assoc]; exact .cons h1 ih
theorem Star.last {A : List UInt8 → Prop} {s : List UInt8} (h : Star A s) : s ≠ [] → ∃ u v, s = u ++ v ∧ Star A u ∧ A v ∧ v ≠ [] := by
  induction h with
  | nil => intro h; exact absurd rfl h
  | @cons u v h1 h2 ih =>
    intro hne
    by_cases hv : v = []
    · subst hv
      rw [List.append_nil] at hne
      exact ⟨[], u, by simp, .nil, h1, hne⟩
    · obtain ⟨u', v', rfl, h3, h4, h5⟩ := ih hv
      exact ⟨u ++ u', v', by rw [List.append_assoc], .cons h1 h3, h4, h5⟩
theorem star_take {A : List UInt8 → Prop} {l : List UInt8} {i : Nat} (hi : 1 ≤ i) (hl : i ≤ l.length) : Star A (l.take i) ↔ ∃ k, k < i ∧ Star A (l.take k) ∧ A ((l.take i).drop k) := by
  constructor
  · intro h
    have hne : l.take i ≠ [] := by
      intro h0
      have := congrArg List.length h0
      rw [List.length_take, List.length_nil] at this
      omega
    obtain ⟨u, v, h1, h2, h3, h4⟩ := h.last hne
    have hlen := congrArg List.length h1
    rw [List.length_take, List.length_append] at hlen
    have hv : 1 ≤ v.length := by
      cases v with
      | nil => exact absurd rfl h4
      | cons x v => simp
    refine ⟨u.length, by omega, ?_, ?_⟩
    · have : l.take u.length = u := by
        have h5 : (l.take i).take u.length = u := by rw [h1, List.take_left']; rfl
        rwa [List.take_take, Nat.min_eq_left (by omega)] at h5
      rw [this]
      exact h2
    · rw [h1, List.drop_left']
      · exact h3
      · rfl
  · rintro ⟨k, h1, h2, h3⟩
    have h4 : l.take i = l.take k ++ (l.take i).drop k := by
      have h5 := List.take_append_drop k (l.take i)
      rw [List.take_take, Nat.min_eq_left (by omega)] at h5
      exact h5.symm
    rw [h4]
    exact h2.snoc h3

/-! the document's example -/
def liveS : ByteArray := ByteArray.mk #[97, 40, 98, 124, 99, 41, 42]
def liveT : T := .seq [.set (singleM 97), .rep (.alt [.set (singleM 98), .set (singleM 99)]) 42]
theorem live_parse : parseF liveS = some liveT := by kernel_rfl
theorem live_size : liveT.size = 6 := by kernel_rfl
theorem single_lang {c : UInt8} (h1 : 32 ≤ c.toNat) (h2 : c.toNat ≤ 126) : Lang (.set (singleM c.toNat)) [c] := by
  rw [Lang]
  refine ⟨c, rfl, h1, h2, ?_⟩
  unfold singleM
  rw [List.getD_eq_getElem?_getD, List.getElem?_set_self (by rw [noneM_length]; omega)]
  rfl
theorem live_yes : accB (netN liveT) (ByteArray.mk #[97, 99, 98]).data.toList = true := by
  rw [acc_true]
  have ha : Lang (.set (singleM 97)) [97] := single_lang (c := 97) (by decide) (by decide)
  have hb : Lang (.set (singleM 98)) [98] := single_lang (c := 98) (by decide) (by decide)
  have hc : Lang (.set (singleM 99)) [99] := single_lang (c := 99) (by decide) (by decide)
  unfold liveT
  rw [Lang, LangSeq]
  refine ⟨[97], [99, 98], rfl, ha, ?_⟩
  rw [LangSeq]
  refine ⟨[99, 98], [], rfl, ?_, by rw [LangSeq]⟩
  rw [Lang]
  show Star _ ([99] ++ ([98] ++ []))
  refine .cons ?_ (.cons ?_ .nil)
  · rw [Lang]; exact langAlt_iff.2 ⟨.set (singleM 99), by simp, hc⟩
  · rw [Lang]; exact langAlt_iff.2 ⟨.set (singleM 98), by simp, hb⟩
theorem live_no : accB (netN liveT) (ByteArray.mk #[98]).data.toList = false := by
  refine Bool.eq_false_iff.2 fun h => ?_
  rw [acc_true] at h
  unfold liveT at h
  rw [Lang, LangSeq] at h
  obtain ⟨u, v, h1, h2, _⟩ := h
  rw [Lang] at h2
  obtain ⟨c, rfl, _, _, h3⟩ := h2
  have h4 : [98] = [c] ++ v := h1
  have h5 : c = 98 := by simpa using (congrArg List.head? h4).symm
  subst h5
  revert h3
  decide
end Go.Proofs.Ytaefhfldgemcnaa
