/- The walk of the law MarkWrites. Conditions: the tables lie as they are laid; the marks lie in memory and are no greater than a bulk. -/
import Derived.Test.YtcicibeggkmlcaaGreatDoorTxG
namespace Go.Proofs.YtcicibeggkmlcaaGreatDoor
open Go.RowKit Go.Sof

theorem textV (X : Except Int Bytes) : ∃ (S : ByteArray) (e : Int), ∀ en, TextPost X en → en = .returned (.tuple #[.string S, .int .i64 e]) := by
  cases X with
  | ok t => exact ⟨⟨t.toArray⟩, 0, fun en h => h⟩
  | error e => exact ⟨⟨#[]⟩, e, fun en h => h⟩

set_option maxRecDepth 1000000 in
set_option maxHeartbeats 1000000 in
theorem writes_c (w : World) (p : Option Addr) (c : Nat) (ms : List PMark) (hw : WOK w) (hl : ms.length ≤ 2097152) (hcap : ms.length ≤ c) (hz : ∀ m ∈ ms, MkSz m) (hm : MarksC w p ms) :
    Calls Tryz.prog 9 #[.slice p ms.length c] w fun en w' => en = .returned (.bool true) ∧ Below w.heap.size w w' := by
  have HW := Lib.hid hw; clear hw
  by_cases hbig : 200 < ms.length
  · have hz' : ∀ m ∈ ms.take 200, MkSz m := fun m h => hz m (List.mem_of_mem_take h)
    have hl' : (ms.take 200).length = 200 := by rw [List.length_take]; omega
    have hm' : MarksC w p (ms.take 200) := fun i hi => by
      rw [List.length_take] at hi
      obtain ⟨g, o, e, h⟩ := hm i (by omega)
      exact ⟨g, o, e, by rw [List.getElem_take]; exact h⟩
    obtain ⟨S, e, hS⟩ := textV (textP (ms.take 200))
    have h1 : ∀ W, WOK W → Below w.heap.size w W → Calls Tryz.prog 28 #[.slice p 200 c] W fun en w' => en = .returned (.tuple #[.string S, .int .i64 e]) ∧ Below W.heap.size W w' := fun W hW hB => by
      have := text_c W p c (ms.take 200) hW (by omega) hz' (hm'.below hB) _ rfl
      rw [hl'] at this
      exact this.mono fun en w' h => ⟨hS en h.1, h.2⟩
    have h2 : ∀ W, Below w.heap.size w W → Calls Tryz.prog 29 #[.slice p 200 c] W fun en w' => en = .returned (.tuple #[.string S, .int .i64 e]) ∧ Below W.heap.size W w' := fun W hB => by
      have := rtext_c W p c (ms.take 200) (by omega) hz' (hm'.below hB) _ rfl
      rw [hl'] at this
      exact this.mono fun en w' h => ⟨hS en h.1, h.2⟩
    obtain ⟨g, o, rfl, _⟩ := hm 0 (by omega)
    obtain ⟨n, hn⟩ : ∃ n, n = ms.length := ⟨_, rfl⟩
    rw [← hn] at hl hcap hbig ⊢
    have hI : (200 : Int) < (n : Int) := by omega
    have hcI : (200 : Int) ≤ (c : Int) := by omega
    have HC := Lib.hid (And.intro h1 h2); clear h1 h2 hS hz hz' hm hm' hl' hn
    go_enter Tryz.func9, Tryz.ntmps9
    go_wp2_with (first
      | (go_at_call 28; refine (HC.out.1 _ HW.out (Below.refl _ _)).mono ?_; rintro en w1 ⟨rfl, b1⟩)
      | (go_at_call 29; refine (HC.out.2 _ b1).mono ?_; rintro en w2 ⟨rfl, b2'⟩; have b2 := b1.trans (b2'.mono b1.size); clear b2')
      | (go_at_call 30; refine (awm_c _ (HW.out.below b2)).mono ?_; rintro en w3 ⟨rfl, b3'⟩; have b3 := b2.trans (b3'.mono b2.size); clear b3'))
    go_ret
    exact ⟨rfl, b3⟩
  · obtain ⟨S, e, hS⟩ := textV (textP ms)
    have h1 : ∀ W, WOK W → Below w.heap.size w W → Calls Tryz.prog 28 #[.slice p ms.length c] W fun en w' => en = .returned (.tuple #[.string S, .int .i64 e]) ∧ Below W.heap.size W w' := fun W hW hB =>
      (text_c W p c ms hW hl hz (hm.below hB) _ rfl).mono fun en w' h => ⟨hS en h.1, h.2⟩
    have h2 : ∀ W, Below w.heap.size w W → Calls Tryz.prog 29 #[.slice p ms.length c] W fun en w' => en = .returned (.tuple #[.string S, .int .i64 e]) ∧ Below W.heap.size W w' := fun W hB =>
      (rtext_c W p c ms hl hz (hm.below hB) _ rfl).mono fun en w' h => ⟨hS en h.1, h.2⟩
    obtain ⟨n, hn⟩ : ∃ n, n = ms.length := ⟨_, rfl⟩
    rw [← hn] at hl hcap hbig h1 h2 ⊢
    have hI : decide ((200 : Int) < (n : Int)) = false := decide_eq_false (by omega)
    have HC := Lib.hid (And.intro h1 h2); clear h1 h2 hS hz hm hn
    go_enter Tryz.func9, Tryz.ntmps9
    go_wp2_with (first
      | (go_at_call 28; refine (HC.out.1 _ HW.out (Below.refl _ _)).mono ?_; rintro en w1 ⟨rfl, b1⟩)
      | (go_at_call 29; refine (HC.out.2 _ b1).mono ?_; rintro en w2 ⟨rfl, b2'⟩; have b2 := b1.trans (b2'.mono b1.size); clear b2')
      | (go_at_call 30; refine (awm_c _ (HW.out.below b2)).mono ?_; rintro en w3 ⟨rfl, b3'⟩; have b3 := b2.trans (b3'.mono b2.size); clear b3'))
    go_ret
    exact ⟨rfl, b3⟩
end Go.Proofs.YtcicibeggkmlcaaGreatDoor
