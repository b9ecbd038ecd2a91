/-
  What is proved: for every text, EnvNames returns true: the program's Name and the document's Name agree.
  Conditions: none beyond the form's own.
-/
import Derived.Test.YtlofjnmnifbilaaRows
import Derived.WalkKit
import Derived.WalkSpells
import Derived.WalkLawsBesides
import Derived.ProofKit
import Derived.OpenShut
import Derived.ShutString
import Derived.Lib.Hide
namespace Go.Proofs.Ytlofjnmnifbilaa.envNames
open Go.ChangeShapes Go.WideShapes Go.ChangeAt Go.RowKit
open Go.ChangeMaps (open_string shut_string)
set_option linter.unusedVariables false

def okc (n : Int) : Prop := ¬ ((n < 97 ∨ 122 < n) ∧ (n < 48 ∨ 57 < n))
instance (n : Int) : Decidable (okc n) := by unfold okc; infer_instance
def good (s : ByteArray) : Prop := 0 < s.size ∧ s.data.toList ≠ [120] ∧ (97 ≤ (((s.data[0]?).getD 0).toNat : Int) ∧ (((s.data[0]?).getD 0).toNat : Int) ≤ 122) ∧ ∀ k (_ : k < s.size), okc (((s.data[k]?).getD 0).toNat : Int)
instance (s : ByteArray) : Decidable (good s) := by unfold good; infer_instance
def nm (s : ByteArray) : Int := if good s then (if 16 < s.size then 10 else 0) else 5

theorem nm_bad (s : ByteArray) (h : ¬ good s) : nm s = 5 := if_neg h
theorem nm_long (s : ByteArray) (h : good s) (h' : 16 < s.size) : nm s = 10 := by rw [nm, if_pos h, if_pos h']
theorem nm_ok (s : ByteArray) (h : good s) (h' : ¬ 16 < s.size) : nm s = 0 := by rw [nm, if_pos h, if_neg h']
theorem at_ (s : ByteArray) (k : Nat) (h : k < s.size) : (s.data[k]?).getD 0 = s[k] := by
  have : k < s.data.size := h
  simp only [Array.getElem?_eq_getElem this, Option.getD_some]; rfl
theorem ret_int {k : IntKind} {a b : Int} (h : a = b) : Ending.returned (.int k a) = .returned (.int k b) := by rw [h]
theorem empty_of (s : ByteArray) (h : s.size = 0) : s = ByteArray.empty := by
  obtain ⟨⟨l⟩⟩ := s
  have : l = [] := List.eq_nil_of_length_eq_zero h
  subst this; rfl
theorem lst (s : ByteArray) : s.toList = s.data.toList := ByteArray.toList_eq _
theorem ne_of (s : ByteArray) (h : 0 < s.size) : s.toList.isEmpty = false := by
  rw [lst]
  cases hl : s.data.toList with
  | nil => have : s.data.toList.length = s.size := rfl; rw [hl] at this; simp at this; omega
  | cons => rfl

set_option maxHeartbeats 400000 in
theorem main4 (s : ByteArray) (w : World) (hs : s.size ≤ maxLen) (h1 : s.toList.isEmpty = false) (h0 : ((s.size : Int) == 0) = false) (h2 : (s.toList == [120]) = false) (h3 : 0 < s.size) (h4 : 97 ≤ (s[0].toNat : Int)) (h5 : (s[0].toNat : Int) ≤ 122) :
    Calls Try.prog 4 #[.string s] w fun e w' => e = .returned (.int .i64 (nm s)) ∧ w = w' := by
  unfold maxLen at hs
  have HG : Hid ((∀ k (_ : k < s.size), okc (((s.data[k]?).getD 0).toNat : Int)) → good s) := by
    intro h
    refine ⟨h3, by rw [← lst]; simpa using h2, ?_, h⟩
    rw [at_ s 0 h3]; exact ⟨h4, h5⟩
  go_enter Try.func4, Try.ntmps4
  go_wp2
  go_loop [23] (fun i => ∃ k : Nat, (k ≤ s.size ∧ ∀ j (_ : j < k), okc (((s.data[j]?).getD 0).toNat : Int)) ∧ i = .int .i64 k) (fun i => s.size - (intOf i).toNat)
  case atStart => exact ⟨0, ⟨Nat.zero_le _, fun j hj => by omega⟩, rfl⟩
  case round =>
    obtain ⟨k, hkk, rfl⟩ := hrel
    have HK := Lib.hid hkk
    have hk : k ≤ s.size := hkk.1
    clear hkk
    by_cases hlt : k < s.size
    · have HA := Lib.hid (at_ s k hlt)
      go_wp2
      all_goals first
        | (go_ret
           refine ⟨ret_int (nm_bad s ?_).symm, rfl⟩
           rintro ⟨_, _, _, hg⟩
           have := hg k hlt
           rw [HA.out] at this
           unfold okc at this
           omega)
        | (go_round
           case rel =>
             refine ⟨k + 1, ⟨by omega, fun j hj => ?_⟩, by go_num⟩
             by_cases hjk : j < k
             · exact HK.out.2 j hjk
             · have : j = k := by omega
               subst this
               rw [HA.out]; unfold okc; omega
           case measure => simp [intOf]; omega)
    · have hg : good s := HG.out fun j hj => HK.out.2 j (by omega)
      have HGG := Lib.hid hg
      clear hg
      by_cases hl : 16 < s.size
      · go_wp2
        go_ret
        exact ⟨ret_int (nm_long s HGG.out hl).symm, rfl⟩
      · go_wp2
        go_ret
        exact ⟨ret_int (nm_ok s HGG.out hl).symm, rfl⟩

set_option maxHeartbeats 400000 in
theorem any4 (s : ByteArray) (w : World) (hs : s.size ≤ maxLen) :
    Calls Try.prog 4 #[.string s] w fun e w' => e = .returned (.int .i64 (nm s)) ∧ w = w' := by
  by_cases h3 : 0 < s.size
  · have h1 := ne_of s h3
    have h0 : ((s.size : Int) == 0) = false := by rw [beq_eq_false_iff_ne]; omega
    by_cases hx : s.toList = [120]
    · have HB : Hid (nm s = 5) := nm_bad s fun h => h.2.1 (by rw [← lst]; exact hx)
      have h2 : (s.toList == [120]) = true := by simp [hx]
      go_enter Try.func4, Try.ntmps4
      go_wp2
      go_ret
      exact ⟨ret_int HB.out.symm, rfl⟩
    · have h2 : (s.toList == [120]) = false := by simpa using hx
      by_cases h4 : 97 ≤ (s[0].toNat : Int)
      · by_cases h5 : (s[0].toNat : Int) ≤ 122
        · exact main4 s w hs h1 h0 h2 h3 h4 h5
        · have HB : Hid (nm s = 5) := nm_bad s fun h => h5 (by have := h.2.2.1.2; rw [at_ s 0 h3] at this; exact this)
          have h6 : 122 < (s[0].toNat : Int) := by omega
          clear hx h5
          go_enter Try.func4, Try.ntmps4
          go_wp2
          go_ret
          exact ⟨ret_int HB.out.symm, rfl⟩
      · have HB : Hid (nm s = 5) := nm_bad s fun h => h4 (by have := h.2.2.1.1; rw [at_ s 0 h3] at this; exact this)
        have h6 : (s[0].toNat : Int) < 97 := by omega
        clear hx h4
        go_enter Try.func4, Try.ntmps4
        go_wp2
        go_ret
        exact ⟨ret_int HB.out.symm, rfl⟩
  · have he : s = ByteArray.empty := empty_of s (by omega)
    subst he
    have HB : Hid (nm ByteArray.empty = 5) := by unfold Hid; decide
    clear h3 hs
    go_enter Try.func4, Try.ntmps4
    go_wp2
    go_ret
    exact ⟨ret_int HB.out.symm, rfl⟩

set_option maxHeartbeats 400000 in
theorem main5 (s : ByteArray) (w : World) (hs : s.size ≤ maxLen) (h1 : s.toList.isEmpty = false) (h0 : ((s.size : Int) == 0) = false) (h2 : (s.toList == [120]) = false) (h3 : 0 < s.size) (h4 : 97 ≤ (s[0].toNat : Int)) (h5 : (s[0].toNat : Int) ≤ 122) :
    Calls Try.prog 5 #[.string s] w fun e w' => e = .returned (.int .i64 (nm s)) ∧ w = w' := by
  unfold maxLen at hs
  have HG : Hid ((∀ k (_ : k < s.size), okc (((s.data[k]?).getD 0).toNat : Int)) → good s) := by
    intro h
    refine ⟨h3, by rw [← lst]; simpa using h2, ?_, h⟩
    rw [at_ s 0 h3]; exact ⟨h4, h5⟩
  go_enter Try.func5, Try.ntmps5
  go_wp2
  go_loop [3] (fun i => ∃ k : Nat, (k ≤ s.size ∧ ∀ j (_ : j < k), okc (((s.data[j]?).getD 0).toNat : Int)) ∧ i = .int .i64 k) (fun i => s.size - (intOf i).toNat)
  case atStart => exact ⟨0, ⟨Nat.zero_le _, fun j hj => by omega⟩, rfl⟩
  case round =>
    obtain ⟨k, hkk, rfl⟩ := hrel
    have HK := Lib.hid hkk
    have hk : k ≤ s.size := hkk.1
    clear hkk
    by_cases hlt : k < s.size
    · have HA := Lib.hid (at_ s k hlt)
      go_wp2
      all_goals first
        | (go_ret
           refine ⟨ret_int (nm_bad s ?_).symm, rfl⟩
           rintro ⟨_, _, _, hg⟩
           have := hg k hlt
           rw [HA.out] at this
           unfold okc at this
           omega)
        | (go_round
           case rel =>
             refine ⟨k + 1, ⟨by omega, fun j hj => ?_⟩, by go_num⟩
             by_cases hjk : j < k
             · exact HK.out.2 j hjk
             · have : j = k := by omega
               subst this
               rw [HA.out]; unfold okc; omega
           case measure => simp [intOf]; omega)
    · have hg : good s := HG.out fun j hj => HK.out.2 j (by omega)
      have HGG := Lib.hid hg
      clear hg
      by_cases hl : 16 < s.size
      · go_wp2
        go_ret
        exact ⟨ret_int (nm_long s HGG.out hl).symm, rfl⟩
      · go_wp2
        go_ret
        exact ⟨ret_int (nm_ok s HGG.out hl).symm, rfl⟩

set_option maxHeartbeats 400000 in
theorem any5 (s : ByteArray) (w : World) (hs : s.size ≤ maxLen) :
    Calls Try.prog 5 #[.string s] w fun e w' => e = .returned (.int .i64 (nm s)) ∧ w = w' := by
  by_cases h3 : 0 < s.size
  · have h1 := ne_of s h3
    have h0 : ((s.size : Int) == 0) = false := by rw [beq_eq_false_iff_ne]; omega
    by_cases hx : s.toList = [120]
    · have HB : Hid (nm s = 5) := nm_bad s fun h => h.2.1 (by rw [← lst]; exact hx)
      have h2 : (s.toList == [120]) = true := by simp [hx]
      go_enter Try.func5, Try.ntmps5
      go_wp2
      go_ret
      exact ⟨ret_int HB.out.symm, rfl⟩
    · have h2 : (s.toList == [120]) = false := by simpa using hx
      by_cases h4 : 97 ≤ (s[0].toNat : Int)
      · by_cases h5 : (s[0].toNat : Int) ≤ 122
        · exact main5 s w hs h1 h0 h2 h3 h4 h5
        · have HB : Hid (nm s = 5) := nm_bad s fun h => h5 (by have := h.2.2.1.2; rw [at_ s 0 h3] at this; exact this)
          have h6 : 122 < (s[0].toNat : Int) := by omega
          clear hx h5
          go_enter Try.func5, Try.ntmps5
          go_wp2
          go_ret
          exact ⟨ret_int HB.out.symm, rfl⟩
      · have HB : Hid (nm s = 5) := nm_bad s fun h => h4 (by have := h.2.2.1.1; rw [at_ s 0 h3] at this; exact this)
        have h6 : (s[0].toNat : Int) < 97 := by omega
        clear hx h4
        go_enter Try.func5, Try.ntmps5
        go_wp2
        go_ret
        exact ⟨ret_int HB.out.symm, rfl⟩
  · have he : s = ByteArray.empty := empty_of s (by omega)
    subst he
    have HB : Hid (nm ByteArray.empty = 5) := by unfold Hid; decide
    clear h3 hs
    go_enter Try.func5, Try.ntmps5
    go_wp2
    go_ret
    exact ⟨ret_int HB.out.symm, rfl⟩

theorem nm_p : nm ⟨#[112]⟩ = 0 := by decide
theorem nm_q : nm ⟨#[97,98,99,100,101,102,103,104,105,106,107,108,109,110,111,112,113]⟩ = 10 := by decide

set_option maxHeartbeats 400000 in
theorem walk (a0 : ByteArray) (w0 : a0.size ≤ maxLen) (w : World) :
    Calls Try.prog 3 #[.string a0] w fun e w' => e = .returned (.bool true) ∧ Grown w w' := by
  have e1 := nm_p
  have e2 := nm_q
  go_enter Try.func3, Try.ntmps3
  go_wp2_with (first | (go_at_call 4; ((with_reducible refine (any4 _ _ ?_).mono ?_); (first | exact w0 | (unfold maxLen; decide)); rintro e w' ⟨rfl, rfl⟩)) | (go_at_call 5; ((with_reducible refine (any5 _ _ w0).mono ?_); rintro e w' ⟨rfl, rfl⟩)))
  go_ret
  exact ⟨rfl, Grown.refl _⟩

theorem own : ownKnob Try.prog.godebug = none := by kernel_rfl
/-! ### THE ROW's STEP: WRITTEN OUT: LEAVE IT -/
set_option maxRecDepth 100000 in
theorem lifted (os : Os) (started : os.Started) (H : Type) (enc : TypeId × Value → H) :
    ReturnsInHanded {} Try.checked os 3 .any (Rows.envNamesSpec.pre6 enc Try.prog Try.f3 Rows.envNamesRow.domain false) (Rows.envNamesSpec.post enc Try.prog Try.f3 false true false false) := by
  refine returnsInHanded_of_change (C := Try.checked) own started (by kernel_rfl) Try.func3
    (ChangeSpec.witness6 (enc := enc) (C := Try.checked) false ⟨#[], #[.string ByteArray.empty], []⟩ 8 (by kernel_rfl) (by kernel_rfl) (by kernel_rfl) (by kernel_rfl)) ?_
  intro W base args ds gs before hval0 hW hcnd _
  have hval : ∀ (j : Nat) t v, Try.f3.params[j]? = some t → args[j]? = some v → Value.okWide Try.prog W .any base t v := hval0
  have hW' := hW
  obtain ⟨p, q, hA0, hV, rfl, hfz, hnd⟩ := hW
  have hA : DataW.TrodAll enc Try.prog W 0 (fun _ => true) true Try.f3.params.toList args.toList ds p := hA0
  rw [Try.params3] at hA hval
  obtain ⟨v0, vs0, d0, ds0, p0, q0, hargs, rfl, rfl, h0, r0⟩ := trodAll_cons hA
  obtain ⟨rfl, rfl, rfl⟩ := trodAll_nil r0
  obtain rfl : args = #[v0] := by cases args; simp_all
  obtain ⟨rfl, rfl⟩ := trodVars_none hV
  obtain ⟨a0, rfl, rfl, rfl, w0⟩ := open_string Try.underlying9 (hval 0 9 v0 rfl rfl) h0
  clear hA0 hval0
  simp only [List.append_nil] at hW'
  refine (walk a0 w0 W).mono fun e W' ⟨he, hg⟩ => ?_
  subst he
  exact ⟨_, rfl, post_of_same (pa := []) (pv := []) hW' (fun _ _ _ => (trodAll_cons_mk (shut_bool Try.underlying4 _) trodAll_mk0)) (fun sp _ => (trodAll_cons_mk (shut_string Try.underlying9 w0) trodAll_mk0)) (fun _ _ => rfl) rfl
    (hg.frame _) hg.2.1 (ok_one (by kernel_rfl) rfl (okWide_bool_mk Try.underlying4 _))⟩

theorem over : Rows.envNamesRow.holds Try.pinned (OpenSpec.ofChange Rows.envNamesSpec) :=
  OpenClaim.holds_of_wide 3 Try.f3 rfl rfl rfl rfl rfl rfl rfl ⟨rfl, rfl, rfl, rfl, rfl⟩ rfl rfl rfl rfl rfl (by kernel_rfl) Try.func3 (by kernel_rfl)
    (of_decide_eq_true (by kernel_rfl)) (by unfold Func.isWrapper; first | (rw [if_pos (by decide +kernel)]; kernel_rfl) | (rw [if_neg (by decide +kernel)]; exact ⟨rfl, rfl⟩))
    (fun os started H enc _ => lifted os started H enc)

/-- ████ THE STATEMENT ████ -/
theorem proved : Rows.EnvNamesSaid :=
  over
#print axioms proved
end Go.Proofs.Ytlofjnmnifbilaa.envNames
