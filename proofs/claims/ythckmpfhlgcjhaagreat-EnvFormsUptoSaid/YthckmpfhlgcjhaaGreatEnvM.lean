/-
  env.Name, surdref26.Name (as in EnvNames). Lists of bindings. strings.Compare; env.byName, right, Good; surdref26.Good.
-/
import Derived.Test.YthckmpfhlgcjhaaGreatRatX
import Derived.WalkSpells
import Derived.WalkLawsBesides
import Derived.ProofKit
import Derived.OpenShut
import Derived.ShutString
import Derived.Lib.Hide
import Derived.Lib.Strings
import Derived.Lib.Slices
import Derived.Lib.Walk
import Derived.Lib.Bytealg
namespace Go.Proofs.YthckmpfhlgcjhaaGreat
open Go.RowKit
set_option linter.unusedVariables false

def okcn (n : Int) : Prop := ¬ ((n < 97 ∨ 122 < n) ∧ (n < 48 ∨ 57 < n))
instance (n : Int) : Decidable (okcn n) := by unfold okcn; infer_instance
def goodn (s : ByteArray) : Prop := 0 < s.size ∧ s.data.toList ≠ [120] ∧ (97 ≤ (((s.data[0]?).getD 0).toNat : Int) ∧ (((s.data[0]?).getD 0).toNat : Int) ≤ 122) ∧ ∀ k (_ : k < s.size), okcn (((s.data[k]?).getD 0).toNat : Int)
instance (s : ByteArray) : Decidable (goodn s) := by unfold goodn; infer_instance
def nm (s : ByteArray) : Int := if goodn s then (if 16 < s.size then 10 else 0) else 5

theorem nm_bad (s : ByteArray) (h : ¬ goodn s) : nm s = 5 := if_neg h
theorem nm_long (s : ByteArray) (h : goodn s) (h' : 16 < s.size) : nm s = 10 := by rw [nm, if_pos h, if_pos h']
theorem nm_ok (s : ByteArray) (h : goodn s) (h' : ¬ 16 < s.size) : nm s = 0 := by rw [nm, if_pos h, if_neg h']
theorem at_nm (s : ByteArray) (k : Nat) (h : k < s.size) : (s.data[k]?).getD 0 = s[k] := by
  have : k < s.data.size := h
  simp only [Array.getElem?_eq_getElem this, Option.getD_some]; rfl
theorem empty_nm (s : ByteArray) (h : s.size = 0) : s = ByteArray.empty := by
  obtain ⟨⟨l⟩⟩ := s
  have : l = [] := List.eq_nil_of_length_eq_zero h
  subst this; rfl
theorem lst_nm (s : ByteArray) : s.toList = s.data.toList := ByteArray.toList_eq _
theorem ne_nm (s : ByteArray) (h : 0 < s.size) : s.toList.isEmpty = false := by
  rw [lst_nm]
  cases hl : s.data.toList with
  | nil => have : s.data.toList.length = s.size := rfl; rw [hl] at this; simp at this; omega
  | cons => rfl

set_option maxHeartbeats 400000 in
theorem ename_main (s : ByteArray) (w : World) (hs : s.size ≤ maxLen) (h1 : s.toList.isEmpty = false) (h0 : ((s.size : Int) == 0) = false) (h2 : (s.toList == [120]) = false) (h3 : 0 < s.size) (h4 : 97 ≤ (s[0].toNat : Int)) (h5 : (s[0].toNat : Int) ≤ 122) :
    Calls Tryz.prog 41 #[.string s] w fun e w' => e = .returned (.int .i64 (nm s)) ∧ w = w' := by
  unfold maxLen at hs
  have HG : Hid ((∀ k (_ : k < s.size), okcn (((s.data[k]?).getD 0).toNat : Int)) → goodn s) := by
    intro h
    refine ⟨h3, by rw [← lst_nm]; simpa using h2, ?_, h⟩
    rw [at_nm s 0 h3]; exact ⟨h4, h5⟩
  go_enter Tryz.func41, Tryz.ntmps41
  go_wp2
  go_loop [23] (fun i => ∃ k : Nat, (k ≤ s.size ∧ ∀ j (_ : j < k), okcn (((s.data[j]?).getD 0).toNat : Int)) ∧ i = .int .i64 k) (fun i => s.size - (intOf i).toNat)
  case atStart => exact ⟨0, ⟨Nat.zero_le _, fun j hj => by omega⟩, rfl⟩
  case round =>
    obtain ⟨k, hkk, rfl⟩ := hrel
    have HK := Lib.hid hkk
    have hk : k ≤ s.size := hkk.1
    clear hkk
    by_cases hlt : k < s.size
    · have HA := Lib.hid (at_nm s k hlt)
      go_wp2
      all_goals first
        | (go_ret
           refine ⟨ret_int (nm_bad s ?_).symm, rfl⟩
           rintro ⟨_, _, _, hg⟩
           have := hg k hlt
           rw [HA.out] at this
           unfold okcn at this
           omega)
        | (go_round
           case rel =>
             refine ⟨k + 1, ⟨by omega, fun j hj => ?_⟩, by go_num⟩
             by_cases hjk : j < k
             · exact HK.out.2 j hjk
             · have : j = k := by omega
               subst this
               rw [HA.out]; unfold okcn; omega
           case measure => simp [intOf]; omega)
    · have hg : goodn s := HG.out fun j hj => HK.out.2 j (by omega)
      have HGG := Lib.hid hg
      clear hg
      by_cases hl : 16 < s.size
      · go_wp2
        go_ret
        exact ⟨ret_int (nm_long s HGG.out hl).symm, rfl⟩
      · go_wp2
        go_ret
        exact ⟨ret_int (nm_ok s HGG.out hl).symm, rfl⟩

set_option maxHeartbeats 400000 in
theorem ename_any (s : ByteArray) (w : World) (hs : s.size ≤ maxLen) :
    Calls Tryz.prog 41 #[.string s] w fun e w' => e = .returned (.int .i64 (nm s)) ∧ w = w' := by
  by_cases h3 : 0 < s.size
  · have h1 := ne_nm s h3
    have h0 : ((s.size : Int) == 0) = false := by rw [beq_eq_false_iff_ne]; omega
    by_cases hx : s.toList = [120]
    · have HB : Hid (nm s = 5) := nm_bad s fun h => h.2.1 (by rw [← lst_nm]; exact hx)
      have h2 : (s.toList == [120]) = true := by simp [hx]
      go_enter Tryz.func41, Tryz.ntmps41
      go_wp2
      go_ret
      exact ⟨ret_int HB.out.symm, rfl⟩
    · have h2 : (s.toList == [120]) = false := by simpa using hx
      by_cases h4 : 97 ≤ (s[0].toNat : Int)
      · by_cases h5 : (s[0].toNat : Int) ≤ 122
        · exact ename_main s w hs h1 h0 h2 h3 h4 h5
        · have HB : Hid (nm s = 5) := nm_bad s fun h => h5 (by have := h.2.2.1.2; rw [at_nm s 0 h3] at this; exact this)
          have h6 : 122 < (s[0].toNat : Int) := by omega
          clear hx h5
          go_enter Tryz.func41, Tryz.ntmps41
          go_wp2
          go_ret
          exact ⟨ret_int HB.out.symm, rfl⟩
      · have HB : Hid (nm s = 5) := nm_bad s fun h => h4 (by have := h.2.2.1.1; rw [at_nm s 0 h3] at this; exact this)
        have h6 : (s[0].toNat : Int) < 97 := by omega
        clear hx h4
        go_enter Tryz.func41, Tryz.ntmps41
        go_wp2
        go_ret
        exact ⟨ret_int HB.out.symm, rfl⟩
  · have he : s = ByteArray.empty := empty_nm s (by omega)
    subst he
    have HB : Hid (nm ByteArray.empty = 5) := by unfold Hid; decide
    clear h3 hs
    go_enter Tryz.func41, Tryz.ntmps41
    go_wp2
    go_ret
    exact ⟨ret_int HB.out.symm, rfl⟩

set_option maxHeartbeats 400000 in
theorem rname_main (s : ByteArray) (w : World) (hs : s.size ≤ maxLen) (h1 : s.toList.isEmpty = false) (h0 : ((s.size : Int) == 0) = false) (h2 : (s.toList == [120]) = false) (h3 : 0 < s.size) (h4 : 97 ≤ (s[0].toNat : Int)) (h5 : (s[0].toNat : Int) ≤ 122) :
    Calls Tryz.prog 51 #[.string s] w fun e w' => e = .returned (.int .i64 (nm s)) ∧ w = w' := by
  unfold maxLen at hs
  have HG : Hid ((∀ k (_ : k < s.size), okcn (((s.data[k]?).getD 0).toNat : Int)) → goodn s) := by
    intro h
    refine ⟨h3, by rw [← lst_nm]; simpa using h2, ?_, h⟩
    rw [at_nm s 0 h3]; exact ⟨h4, h5⟩
  go_enter Tryz.func51, Tryz.ntmps51
  go_wp2
  go_loop [3] (fun i => ∃ k : Nat, (k ≤ s.size ∧ ∀ j (_ : j < k), okcn (((s.data[j]?).getD 0).toNat : Int)) ∧ i = .int .i64 k) (fun i => s.size - (intOf i).toNat)
  case atStart => exact ⟨0, ⟨Nat.zero_le _, fun j hj => by omega⟩, rfl⟩
  case round =>
    obtain ⟨k, hkk, rfl⟩ := hrel
    have HK := Lib.hid hkk
    have hk : k ≤ s.size := hkk.1
    clear hkk
    by_cases hlt : k < s.size
    · have HA := Lib.hid (at_nm s k hlt)
      go_wp2
      all_goals first
        | (go_ret
           refine ⟨ret_int (nm_bad s ?_).symm, rfl⟩
           rintro ⟨_, _, _, hg⟩
           have := hg k hlt
           rw [HA.out] at this
           unfold okcn at this
           omega)
        | (go_round
           case rel =>
             refine ⟨k + 1, ⟨by omega, fun j hj => ?_⟩, by go_num⟩
             by_cases hjk : j < k
             · exact HK.out.2 j hjk
             · have : j = k := by omega
               subst this
               rw [HA.out]; unfold okcn; omega
           case measure => simp [intOf]; omega)
    · have hg : goodn s := HG.out fun j hj => HK.out.2 j (by omega)
      have HGG := Lib.hid hg
      clear hg
      by_cases hl : 16 < s.size
      · go_wp2
        go_ret
        exact ⟨ret_int (nm_long s HGG.out hl).symm, rfl⟩
      · go_wp2
        go_ret
        exact ⟨ret_int (nm_ok s HGG.out hl).symm, rfl⟩

set_option maxHeartbeats 400000 in
theorem rname_any (s : ByteArray) (w : World) (hs : s.size ≤ maxLen) :
    Calls Tryz.prog 51 #[.string s] w fun e w' => e = .returned (.int .i64 (nm s)) ∧ w = w' := by
  by_cases h3 : 0 < s.size
  · have h1 := ne_nm s h3
    have h0 : ((s.size : Int) == 0) = false := by rw [beq_eq_false_iff_ne]; omega
    by_cases hx : s.toList = [120]
    · have HB : Hid (nm s = 5) := nm_bad s fun h => h.2.1 (by rw [← lst_nm]; exact hx)
      have h2 : (s.toList == [120]) = true := by simp [hx]
      go_enter Tryz.func51, Tryz.ntmps51
      go_wp2
      go_ret
      exact ⟨ret_int HB.out.symm, rfl⟩
    · have h2 : (s.toList == [120]) = false := by simpa using hx
      by_cases h4 : 97 ≤ (s[0].toNat : Int)
      · by_cases h5 : (s[0].toNat : Int) ≤ 122
        · exact rname_main s w hs h1 h0 h2 h3 h4 h5
        · have HB : Hid (nm s = 5) := nm_bad s fun h => h5 (by have := h.2.2.1.2; rw [at_nm s 0 h3] at this; exact this)
          have h6 : 122 < (s[0].toNat : Int) := by omega
          clear hx h5
          go_enter Tryz.func51, Tryz.ntmps51
          go_wp2
          go_ret
          exact ⟨ret_int HB.out.symm, rfl⟩
      · have HB : Hid (nm s = 5) := nm_bad s fun h => h4 (by have := h.2.2.1.1; rw [at_nm s 0 h3] at this; exact this)
        have h6 : (s[0].toNat : Int) < 97 := by omega
        clear hx h4
        go_enter Tryz.func51, Tryz.ntmps51
        go_wp2
        go_ret
        exact ⟨ret_int HB.out.symm, rfl⟩
  · have he : s = ByteArray.empty := empty_nm s (by omega)
    subst he
    have HB : Hid (nm ByteArray.empty = 5) := by unfold Hid; decide
    clear h3 hs
    go_enter Tryz.func51, Tryz.ntmps51
    go_wp2
    go_ret
    exact ⟨ret_int HB.out.symm, rfl⟩

end Go.Proofs.YthckmpfhlgcjhaaGreat
namespace Go.Proofs.YthckmpfhlgcjhaaGreat
open Go.RowKit
set_option linter.unusedVariables false

@[go_sem] theorem binOp_string_geqE (t : TypeId) (a b : ByteArray) : binOp .geq t (.string a) (.string b) = pure (.bool !(Op.bytesLess a.toList b.toList)) := by simp [binOp, Op.stringOp]
/-- the order of two names -/
def bcmp (a b : ByteArray) : Int := Lib.compareBytes a.data.toList b.data.toList
theorem cmpB_lt : ∀ (a b : List UInt8), decide (Lib.compareBytes a b < 0) = Op.bytesLess a b
  | [], [] => rfl
  | [], _ :: _ => rfl
  | _ :: _, [] => rfl
  | x :: a, y :: b => by
    unfold Lib.compareBytes Op.bytesLess
    by_cases h : x < y
    · rw [if_pos h, decide_eq_true h]; rfl
    · rw [if_neg h, decide_eq_false h]
      by_cases h2 : y < x
      · rw [if_pos h2]
        have : (x == y) = false := by
          rw [beq_eq_false_iff_ne]; intro e; subst e; exact UInt8.lt_irrefl _ h2
        rw [this]; rfl
      · rw [if_neg h2]
        have : x = y := by
          have h3 := UInt8.not_lt.1 h
          have h4 := UInt8.not_lt.1 h2
          exact UInt8.le_antisymm h4 h3
        subst this
        rw [cmpB_lt a b]
        simp
theorem cmpB_eq : ∀ (a b : List UInt8), Lib.compareBytes a b = 0 ↔ a = b
  | [], [] => by simp [Lib.compareBytes]
  | [], _ :: _ => by simp [Lib.compareBytes]
  | _ :: _, [] => by simp [Lib.compareBytes]
  | x :: a, y :: b => by
    unfold Lib.compareBytes
    by_cases h : x < y
    · rw [if_pos h]
      constructor
      · intro e; cases e
      · intro e; injection e with e _; subst e; exact absurd h (UInt8.lt_irrefl _)
    · rw [if_neg h]
      by_cases h2 : y < x
      · rw [if_pos h2]
        constructor
        · intro e; cases e
        · intro e; injection e with e _; subst e; exact absurd h2 (UInt8.lt_irrefl _)
      · rw [if_neg h2, cmpB_eq a b]
        have : x = y := UInt8.le_antisymm (UInt8.not_lt.1 h2) (UInt8.not_lt.1 h)
        subst this
        simp
theorem ba_list (a : ByteArray) : a.toList = a.data.toList := ByteArray.toList_eq _
theorem bcmp_lt (a b : ByteArray) : Op.bytesLess a.toList b.toList = decide (bcmp a b < 0) := by rw [ba_list, ba_list]; exact (cmpB_lt _ _).symm
theorem bcmp_eq {a b : ByteArray} : bcmp a b = 0 ↔ a = b := by
  unfold bcmp
  rw [cmpB_eq]
  constructor
  · intro h
    obtain ⟨⟨la⟩⟩ := a
    obtain ⟨⟨lb⟩⟩ := b
    simp at h
    subst h; rfl
  · intro h; subst h; rfl
set_option maxHeartbeats 1000000 in
set_option maxRecDepth 100000 in
theorem cmpString_any (a b : ByteArray) (w : World) : Calls Tryz.prog 84 #[.string a, .string b] w fun e w' => e = .returned (.int .i64 (bcmp a b)) ∧ w' = w := by
  go_enter Tryz.func84, Tryz.ntmps84
  go_wp2
  rw [run_callFunc_extern Tryz.func104 (by kernel_rfl) (by kernel_rfl) (by kernel_rfl) (e := Extern.BytealgCompare.compare) (by kernel_rfl), Lib.run_compareString]
  simp only [Result.andThen]
  rw [Oper.upon_value]
  go_wp2
  go_ret
  exact ⟨rfl, rfl⟩
theorem sCompare_any (a b : ByteArray) (w : World) : Calls Tryz.prog 68 #[.string a, .string b] w fun e w' => e = .returned (.int .i64 (bcmp a b)) ∧ w' = w := by
  go_enter Tryz.func68, Tryz.ntmps68
  go_wp2_with fail
  refine (cmpString_any a b _).mono ?_
  rintro e w' ⟨rfl, rfl⟩
  go_wp2
  go_ret
  exact ⟨rfl, rfl⟩
theorem byName_any (a b : ByteArray) (u v : Value) (w : World) : Calls Tryz.prog 50 #[.agg #[.string a, u], .agg #[.string b, v]] w (Keeps (.int .i64 (bcmp a b)) w) := by
  have HB : Hid (Below w.heap.size w (World.alloc (World.alloc w (.cells #[.string a, u] 56)) (.cells #[.string b, v] 56))) := ((Below.refl _ _).alloc (Nat.le_refl _) _).alloc (by simp) _
  go_enter Tryz.func50, Tryz.ntmps50
  go_wp2_with fail
  refine (sCompare_any a b _).mono ?_
  rintro e w' ⟨rfl, rfl⟩
  go_wp2
  go_ret
  exact ⟨rfl, HB.out⟩
/-- a binding as it came in -/
abbrev Bn := ByteArray × List Cf
abbrev Hb := ByteArray × Sh
def hbv (h : Hb) : List Value := [.string h.1, shv h.2]
theorem hbv_len (h : Hb) : (hbv h).length = 2 := rfl
def rightc (b : Bn) : Int := if nm b.1 = 0 then fitc b.2 else nm b.1
set_option maxHeartbeats 1000000 in
theorem right_any {s : ByteArray} {A : Option Addr} {n c L : Nat} {rs : List Cf} {w : World} (h : PolyI L w (.slice A n c) rs) (hs : s.size ≤ maxLen) (hL1 : 1 ≤ L) (hL : L ≤ 268435456) (hn : n ≤ 1073741824) :
    Calls Tryz.prog 49 #[.agg #[.string s, .slice A n c]] w (Keeps (.int .i64 (rightc (s, rs))) w) := by
  have H := Lib.hid h
  have HN := Lib.hid (ename_any s (World.alloc w (.cells #[.string s, .slice A n c] 56)) hs)
  clear h hs
  go_enter Tryz.func49, Tryz.ntmps49
  go_wp2_with fail
  refine HN.out.mono ?_
  rintro e w1 ⟨rfl, rfl⟩
  by_cases h0 : nm s = 0
  · have HF : Hid (rightc (s, rs) = fitc rs) := by unfold rightc; rw [if_pos h0]; rfl
    rw [h0]
    go_wp2_with fail
    refine (efits_any (H.out.below ((Below.refl _ _).alloc (Nat.le_refl _) (.cells #[.string s, .slice A n c] 56))) hL1 hL hn).mono ?_
    rintro e w1 ⟨rfl, hb1⟩
    have HEND := Lib.hid (bt ((Below.refl _ _).alloc (Nat.le_refl _) (.cells #[.string s, .slice A n c] 56)) hb1)
    go_wp2
    go_ret
    exact ⟨by rw [HF.out]; rfl, HEND.out⟩
  · have HF : Hid (rightc (s, rs) = nm s) := by unfold rightc; rw [if_neg h0]; rfl
    have d1 : (nm s == 0) = false := by rw [beq_eq_false_iff_ne]; exact h0
    have d2 : (nm s != 0) = true := by simp [bne, d1]
    generalize nm s = z at *
    go_wp2
    go_ret
    exact ⟨by rw [HF.out]; rfl, (Below.refl _ _).alloc (Nat.le_refl _) _⟩
end Go.Proofs.YthckmpfhlgcjhaaGreat
