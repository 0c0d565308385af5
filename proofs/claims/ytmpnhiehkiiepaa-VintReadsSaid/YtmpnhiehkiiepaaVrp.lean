/-
  Plain facts on a reader's state. No condition.
-/
import Derived.Test.YtmpnhiehkiiepaaVr
namespace Go.Proofs.Ytmpnhiehkiiepaa
open Go.RowKit

/-! ### Plain facts on a reader's state -/
/-- One that has ended has nothing left. -/
def RS.wf (s : RS) : Prop := s.err ≠ 0 → s.l = []
theorem RS.wf_fail {s : RS} (h : s.wf) (e : Int) : (s.fail e).wf := by unfold RS.fail; split; exact h; exact fun _ => rfl
theorem RS.wf_next {s : RS} (h : s.wf) : s.next.wf := by
  unfold RS.next; split; exact h; split; exact fun _ => rfl; exact fun h => absurd rfl h
theorem RS.wf_least {s : RS} (h : s.wf) : s.least.2.wf := by
  unfold RS.least; split; exact RS.wf_next h; split; exact RS.wf_fail (RS.wf_next h) _; exact RS.wf_next h
theorem RS.wf_count {s : RS} (h : s.wf) (k : Int) : (s.count k).2.wf := by
  rw [RS.count_eq]
  (repeat' split) <;> first | exact RS.wf_fail (RS.wf_next h) _ | exact RS.wf_next h
theorem RS.wf_bytes {s : RS} (h : s.wf) (k : Int) : (s.bytes k).2.wf := by
  unfold RS.bytes; split; exact h; split; exact fun _ => rfl; exact fun h => absurd rfl h
theorem RS.wf_long {s : RS} (h : s.wf) (k : Int) : (s.long k).2.wf := RS.wf_bytes (RS.wf_count h k) _
theorem RS.end_eq {s : RS} (h : s.wf) : s.end_.l.length = 0 ∧ s.end_ = if s.err = 0 ∧ 0 < s.l.length then s.fail 24 else s := by
  unfold RS.end_
  by_cases hl : s.l.length = 0
  · rw [if_pos hl, if_neg (by omega)]; exact ⟨hl, rfl⟩
  · have he : s.err = 0 := by
      by_cases he : s.err = 0
      · exact he
      · have := h he; rw [this] at hl; simp at hl
    rw [if_neg hl, if_pos ⟨he, by omega⟩]
    exact ⟨by unfold RS.fail; rw [if_neg (by simp [he])]; rfl, rfl⟩
/-- How the law reckons the next number of the fewest bytes. -/
theorem RS.least_not {s : RS} (h : s.next.err ≠ 0) : s.least = (s.num, s.next) := by
  have hb : s.okB = false := by
    unfold RS.okB
    unfold RS.next at h
    by_cases he : s.err = 0
    · by_cases hk : takeN s.l = 0
      · simp [hk]
      · simp [he, hk] at h
    · simp [he]
  unfold RS.least
  rw [if_pos hb, s.num_not hb]
theorem RS.least_ok {s : RS} (h : s.next.err = 0) : (s.l.length : Int) - s.next.l.length = s.size ∧ s.least = if (s.size : Int) = lenF s.num then (s.num, s.next) else (0, s.next.fail 4) := by
  have hb : s.err = 0 ∧ takeN s.l ≠ 0 := by
    unfold RS.next at h
    by_cases he : s.err = 0
    · by_cases hk : takeN s.l = 0
      · simp [he, hk] at h
      · exact ⟨he, hk⟩
    · simp [he] at h
  have hk : s.okB = true := by unfold RS.okB; simp [hb]
  have hle := takeN_le s.l
  refine ⟨?_, ?_⟩
  · unfold RS.next RS.size
    rw [if_neg (by simp [hb.1]), if_neg hb.2, if_neg (by simp [hb.1])]
    simp; omega
  · unfold RS.least
    rw [if_neg (by simp [hk])]
    by_cases hs : (s.size : Int) = lenF s.num
    · rw [if_pos hs, if_neg (by simpa using hs)]
    · rw [if_neg hs, if_pos hs]
end Go.Proofs.Ytmpnhiehkiiepaa
