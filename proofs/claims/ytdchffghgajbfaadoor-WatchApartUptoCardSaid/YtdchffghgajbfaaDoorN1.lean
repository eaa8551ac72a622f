/- bursarref04.Name: the document's answer for a name. -/
import Derived.Test.YtdchffghgajbfaaDoorA1
namespace Go.Proofs.YtdchffghgajbfaaDoor
open Go.RowKit

theorem okC_true {c : Nat} (h : okC (c : Int) = true) : (97 ≤ c ∧ c ≤ 122) ∨ (48 ≤ c ∧ c ≤ 57) ∨ c = 45 := by
  simp [okC, plainC] at h; omega
theorem okC_false {c : Nat} (h : okC (c : Int) = false) : ¬ (97 ≤ c ∧ c ≤ 122) ∧ ¬ (48 ≤ c ∧ c ≤ 57) ∧ c ≠ 45 := by
  simp [okC, plainC] at h; omega
set_option maxRecDepth 100000 in
theorem rname_loop (s : ByteArray) (w : World) (h1 : 1 ≤ s.size) (h2 : s.size ≤ 32) (h3 : ((s[0]'(by omega)).toNat : Int) ≠ 45) (h4 : ((s[s.size - 1]'(by omega)).toNat : Int) ≠ 45) :
    Calls Tryd.prog 105 #[.string s] w fun e w' => e = .returned (.bool (s.data.toList.all okB)) ∧ w = w' := by
  have e1 : decide ((s.size : Int) < 1) = false := by simp; omega
  have e2 : decide ((s.size : Int) > 32) = false := by simp; omega
  have e3 : (((s[0]'(by omega)).toNat : Int) == 45) = false := by simpa using h3
  have e4 : (((s[s.size - 1]'(by omega)).toNat : Int) == 45) = false := by simpa using h4
  clear h3 h4
  obtain ⟨R, hR⟩ : ∃ R, s.data.toList.all okB = R := ⟨_, rfl⟩
  rw [hR]
  have HR := Lib.hid hR
  clear hR
  go_enter Tryd.func105, Tryd.ntmps105
  go_wp2
  clear e1 e2 e3 e4
  go_loopw [3] (fun v wr => ∃ (pos : Nat), v = .int .i64 pos ∧ pos ≤ s.size ∧ Hid (w = wr) ∧ PrefOk s pos) (fun v _ => s.size - (intOf v).toNat)
  case atStart => exact ⟨0, rfl, Nat.zero_le _, rfl, fun i _ h => absurd h (by omega)⟩
  case round =>
    obtain ⟨pos, rfl, hp0, hw, hpf⟩ := hrel
    obtain rfl : w = wr := hw
    by_cases hp : pos < s.size
    · have hok : okB s[pos] = okC ((s[pos]'hp).toNat : Int) := rfl
      have hpf2 := Lib.hid (fun h => hpf.next hp (hok.trans h))
      have hall := Lib.hid (fun h => all_false hp (hok.trans h))
      clear hok hpf
      have hpi : (pos : Int) < s.size := by omega
      cases hc : okC ((s[pos]'hp).toNat : Int)
      · have hall3 := Lib.hid (HR.out.symm.trans (hall.out hc))
        have hnum := Lib.hid (okC_false hc)
        have e5 : (((s[pos]'hp).toNat : Int) != 45) = true := by have := (okC_false hc).2.2; simp [bne]; omega
        clear hc
        by_cases h1 : 97 ≤ (s[pos]'hp).toNat <;> by_cases h2 : (s[pos]'hp).toNat ≤ 122 <;> by_cases h3 : 48 ≤ (s[pos]'hp).toNat <;> by_cases h4 : (s[pos]'hp).toNat ≤ 57 <;> by_cases h5 : (s[pos]'hp).toNat = 45
        all_goals (first | (exfalso; have := hnum.out; omega) | skip)
        all_goals (try (have e6 : decide (((s[pos]'hp).toNat : Int) ≤ 57) = false := by simp; omega))
        all_goals (try (have e7 : decide (((s[pos]'hp).toNat : Int) ≤ 122) = false := by simp; omega))
        all_goals (try (have e8 : decide (((s[pos]'hp).toNat : Int) ≥ 97) = false := by simp; omega))
        all_goals (try (have e9 : decide (((s[pos]'hp).toNat : Int) ≥ 48) = false := by simp; omega))
        all_goals go_wp2
        all_goals go_ret
        all_goals exact ⟨by rw [hall3.out]; rfl, rfl⟩
      · have hpf3 := Lib.hid (hpf2.out hc)
        have hnum := Lib.hid (okC_true hc)
        clear hc
        by_cases h1 : 97 ≤ (s[pos]'hp).toNat <;> by_cases h2 : (s[pos]'hp).toNat ≤ 122 <;> by_cases h3 : 48 ≤ (s[pos]'hp).toNat <;> by_cases h4 : (s[pos]'hp).toNat ≤ 57 <;> by_cases h5 : (s[pos]'hp).toNat = 45
        all_goals (first | (exfalso; have := hnum.out; omega) | skip)
        all_goals (try (have e5 : (((s[pos]'hp).toNat : Int) != 45) = false := by simp [bne]; omega))
        all_goals go_wp2
        all_goals go_roundw
        all_goals (first | (simp [intOf]; omega) | exact ⟨pos + 1, by go_num, hp, rfl, hpf3.out⟩ | exact ⟨pos + 1, by go_num, hp, True.intro, hpf3.out⟩)
    · have hall := Lib.hid (all_of_pref hpf (by omega))
      clear hpf
      go_wp2
      go_ret
      exact ⟨by rw [← HR.out, hall.out]; rfl, rfl⟩
set_option maxRecDepth 100000 in
theorem rname_any (s : ByteArray) (w : World) : Calls Tryd.prog 105 #[.string s] w fun e w' => e = .returned (.bool (nameB s)) ∧ w = w' := by
  by_cases h1 : 1 ≤ s.size
  · by_cases h2 : s.size ≤ 32
    · have g1 := getElem_head s (by omega)
      have g2 := getElem_last s (by omega)
      by_cases h3 : ((s[0]'(by omega)).toNat : Int) = 45
      · have hb := Lib.hid (show nameB s = false by
          have : (s[0]'(by omega)) = 45 := UInt8.toNat_inj.1 (by simp; omega)
          unfold nameB nameL; rw [g1, this]; simp)
        have e1 : decide ((s.size : Int) < 1) = false := by simp; omega
        have e2 : decide ((s.size : Int) > 32) = false := by simp; omega
        have e3 : (((s[0]'(by omega)).toNat : Int) == 45) = true := by simpa using h3
        clear h3 g1 g2
        go_enter Tryd.func105, Tryd.ntmps105
        go_wp2
        go_ret
        exact ⟨by rw [hb.out]; rfl, rfl⟩
      · by_cases h4 : ((s[s.size - 1]'(by omega)).toNat : Int) = 45
        · have hb := Lib.hid (show nameB s = false by
            have : (s[s.size - 1]'(by omega)) = 45 := UInt8.toNat_inj.1 (by simp; omega)
            unfold nameB nameL; rw [g2, this]; simp)
          have e1 : decide ((s.size : Int) < 1) = false := by simp; omega
          have e2 : decide ((s.size : Int) > 32) = false := by simp; omega
          have e3 : (((s[0]'(by omega)).toNat : Int) == 45) = false := by simpa using h3
          have e4 : (((s[s.size - 1]'(by omega)).toNat : Int) == 45) = true := by simpa using h4
          clear h3 h4 g1 g2
          go_enter Tryd.func105, Tryd.ntmps105
          go_wp2
          go_ret
          exact ⟨by rw [hb.out]; rfl, rfl⟩
        · have hb : nameB s = s.data.toList.all okB := by
            have n3 : (s[0]'(by omega)) ≠ 45 := fun e => h3 (by rw [e]; rfl)
            have n4 : (s[s.size - 1]'(by omega)) ≠ 45 := fun e => h4 (by rw [e]; rfl)
            unfold nameB nameL; rw [g1, g2, data_len]; simp [n3, n4, h1, h2]
          rw [hb]
          exact rname_loop s w h1 h2 h3 h4
    · have hb := Lib.hid (show nameB s = false by unfold nameB nameL; rw [data_len]; simp [h2])
      have e1 : decide ((s.size : Int) < 1) = false := by simp; omega
      have e2 : decide ((s.size : Int) > 32) = true := by simp; omega
      go_enter Tryd.func105, Tryd.ntmps105
      go_wp2
      go_ret
      exact ⟨by rw [hb.out]; rfl, rfl⟩
  · have hb := Lib.hid (show nameB s = false by unfold nameB nameL; rw [data_len]; simp [h1])
    have e1 : decide ((s.size : Int) < 1) = true := by simp; omega
    go_enter Tryd.func105, Tryd.ntmps105
    go_wp2
    go_ret
    exact ⟨by rw [hb.out]; rfl, rfl⟩
end Go.Proofs.YtdchffghgajbfaaDoor
