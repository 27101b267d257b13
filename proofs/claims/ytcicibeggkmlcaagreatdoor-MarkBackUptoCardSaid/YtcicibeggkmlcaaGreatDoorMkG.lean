/- The walk of the reader of marks: attr, whole. Conditions: as in the text before. -/
import Derived.Test.YtcicibeggkmlcaaGreatDoorMkF
namespace Go.Proofs.YtcicibeggkmlcaaGreatDoor
open Go.RowKit Go.Sof

theorem attr_c (w : World) (R : Nat) (s : ByteArray) (p frm : Nat) (out : Value) (h : Rd w R s p out 0 0) (hs : s.size ≤ 65536) (hp : p ≤ s.size) (hw : WOK w) (hR : Globs R) :
    Calls Tryz.prog 88 #[.pointer (some ⟨R, 0, none⟩), .int .i64 frm] w fun en w' => AttrPost R s p frm out (attrP (s.data.toList.drop p)) en w' ∧ w.grownBy w' (some R) := by
  have hnm := fun W hW => nm_c W R s p out 0 0 hW hs hp
  have hle := nameP_le (s.data.toList.drop p)
  have hsl : s.data.toList.length = s.size := Array.length_toList
  unfold attrP
  generalize nameP (s.data.toList.drop p) = N at *
  rw [List.length_drop, hsl] at hle
  have hpL : p + N.length ≤ s.size := by omega
  by_cases hn : N = []
  · rw [if_pos hn]
    exact attr_1 w R s p frm out N.length N h hs hpL hw hR (by subst hn; exact hnm) hn
  · rw [if_neg hn]
    have hne : N.isEmpty = false := by simpa using hn
    rw [List.drop_drop, List.drop_drop, List.drop_drop]
    cases he : Lib.hasPrefix (s.data.toList.drop (p + N.length)) [61] with
    | false =>
      rw [if_pos rfl]
      exact attr_2 w R s p frm out N.length N h hs hpL hw hR hnm hne he
    | true =>
      rw [if_neg (by simp)]
      have h1 := hp_drop_lt he
      rw [hsl] at h1
      rw [show p + (N.length + 1) = p + N.length + 1 from by omega]
      cases hq : Lib.hasPrefix (s.data.toList.drop (p + N.length + 1)) [34] with
      | false =>
        rw [if_pos rfl]
        exact attr_3 w R s p frm out N.length N h hs hpL hw hR hnm hne he (by omega) hq
      | true =>
        rw [if_neg (by simp)]
        have h2 := hp_drop_lt hq
        rw [hsl] at h2
        have hXl := Lib.extract_to_end s (p + N.length + 1 + 1)
        rw [show p + (N.length + 2) = p + N.length + 1 + 1 from by omega]
        cases hi : idx (s.data.toList.drop (p + N.length + 1 + 1)) [34] with
        | none =>
          obtain ⟨B, Z, hcut⟩ := cut_noW (s.extract (p + N.length + 1 + 1) s.size) ⟨#[34]⟩ (by simp; omega) (by rw [hXl]; exact hi)
          exact attr_4 w R s p frm out N.length N B Z h hs hpL hw hR hnm hne he (by omega) hq hcut
        | some i =>
          obtain ⟨B, Z, hBl, hBs, hcut⟩ := cut_okW (s.extract (p + N.length + 1 + 1) s.size) ⟨#[34]⟩ (by simp; omega) i (by rw [hXl]; exact hi)
          have hi2 := (idx_some hi).2.1
          simp only [List.length_drop, List.length_cons, List.length_nil, hsl] at hi2
          rw [hXl] at hBl
          have hu := fun W hW => unescape_c B W hW (by omega)
          simp only
          rw [← hBl]
          cases hun : un B.data.toList with
          | error x =>
            obtain ⟨k, e⟩ := x
            obtain ⟨hk, he2⟩ := un_err _ _ (Nat.le_refl _) _ _ hun
            rw [show B.data.toList.length = B.size from Array.length_toList, hBs] at hk
            rw [show unR B.data.toList = ([], k, e) from by unfold unR; rw [hun], show unV ([], k, e) = .tuple #[.string ⟨#[]⟩, .int .i64 k, .int .i64 e] from rfl] at hu
            rcases he2 with rfl | rfl
            · exact attr_5 w R s p frm out N.length N B Z k h hs hpL hw hR hnm hne he (by omega) hq hcut (by omega) hu
            · exact attr_6 w R s p frm out N.length N B Z k h hs hpL hw hR hnm hne he (by omega) hq hcut (by omega) hu
          | ok t =>
            rw [show unR B.data.toList = (t, 0, 0) from by unfold unR; rw [hun], show unV (t, 0, 0) = .tuple #[.string ⟨t.toArray⟩, .int .i64 0, .int .i64 0] from rfl] at hu
            exact attr_7 w R s p frm out N.length N B Z ⟨t.toArray⟩ i h hs hpL hw hR hnm hne he (by omega) hq hcut (by omega) hBs hu
end Go.Proofs.YtcicibeggkmlcaaGreatDoor
