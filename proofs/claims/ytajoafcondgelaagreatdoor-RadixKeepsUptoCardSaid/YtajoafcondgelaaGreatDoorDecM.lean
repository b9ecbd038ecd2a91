/-
  Decimals in plain numbers: what is behind the point, digit by digit; where a quotient ends. strings.Repeat of one sign: the kit's contract laid at this seat. Bytes out of a text ('[]byte(s)'): a row whose end is frozen; append of one byte to it; back to a text. Places, in the program and in the document: where a quotient ends. Decimal, in the program and in the document. The document's Decimal.
-/
import Derived.Test.YtajoafcondgelaaGreatDoorRadG
import Derived.Test.YtajoafcondgelaaGreatDoorNatB
import Derived.Shelf.Strings.Repeat
import Derived.Shelf.Lay
import Derived.Ground.NamesProg
import Derived.Lib.Agree
import Derived.Test.YtajoafcondgelaaGreatDoorRad6X
import Derived.Test.YtajoafcondgelaaGreatDoorIntR
import Derived.Test.YtajoafcondgelaaGreatDoorRadT
namespace Go.Proofs.YtajoafcondgelaaGreatDoor
set_option linter.unusedVariables false

def sg8 (d : Nat) : UInt8 := UInt8.ofNat (sgn d)
/-- the digits behind the point, the first first -/
def decl (r den : Nat) : Nat → List Nat
  | 0 => []
  | i + 1 => decl r den i ++ [10 * (r * 10 ^ i % den) / den]
theorem decl_len (r den i : Nat) : (decl r den i).length = i := by
  induction i with
  | zero => rfl
  | succ i ih => simp [decl, ih]
theorem decl_dig {r den : Nat} (hd : 0 < den) (i : Nat) : 10 * (r * 10 ^ i % den) / den < 10 := by
  rw [Nat.div_lt_iff_lt_mul hd]
  have := Nat.mod_lt (r * 10 ^ i) hd
  omega
theorem decl_all {r den : Nat} (hd : 0 < den) (i : Nat) : All 10 (decl r den i) := by
  induction i with
  | zero => exact All.nil
  | succ i ih => exact ih.append (All.cons (decl_dig hd i) All.nil)
theorem decl_val {r den : Nat} (h : r < den) (i : Nat) : val 10 (decl r den i).reverse = r * 10 ^ i / den := by
  have hd : 0 < den := by omega
  induction i with
  | zero => simp [decl, val, Nat.div_eq_of_lt h]
  | succ i ih =>
    simp only [decl, List.reverse_append, List.reverse_cons, List.reverse_nil, List.nil_append, List.cons_append, val, ih]
    rw [Nat.pow_succ, ← Nat.mul_assoc]
    have e : r * 10 ^ i * 10 = 10 * (r * 10 ^ i % den) + den * (10 * (r * 10 ^ i / den)) := by
      have := Nat.mod_add_div (r * 10 ^ i) den
      rw [Nat.mul_left_comm]; omega
    rw [e, Nat.add_mul_div_left _ _ hd]
theorem all_rev {b : Nat} {xs : List Nat} (h : All b xs) : All b xs.reverse := fun x hx => h x (by simpa using hx)
theorem strip_padl (xs : List Nat) : xs = strip xs ++ List.replicate (xs.length - (strip xs).length) 0 := by
  induction xs using strip_ind with
  | h0 => rfl
  | hz xs ih =>
    have hl := strip_length_le xs
    rw [strip_snoc_zero, List.length_append, show xs.length + [0].length - (strip xs).length = (xs.length - (strip xs).length) + 1 by simp; omega, List.replicate_succ', ← List.append_assoc, ← ih]
  | hs xs x hx => rw [strip_snoc hx]; simp
theorem norm_app {xs ys : List Nat} (h : Norm ys) (hn : ys ≠ []) : Norm (xs ++ ys) := by
  rcases snoc_cases ys with rfl | ⟨zs, z, rfl⟩
  · exact absurd rfl hn
  · by_cases hz : z = 0
    · subst hz
      unfold Norm at h
      rw [strip_snoc_zero] at h
      have := strip_length_le zs
      rw [h] at this
      simp at this
      omega
    · unfold Norm
      rw [← List.append_assoc, strip_snoc hz]
/-- zeros in front -/
def padl (n : Nat) (l : List UInt8) : List UInt8 := List.replicate (n - l.length) 48 ++ l
theorem quo_pow {num den : Nat} (hd : 0 < den) (p : Nat) : num * 10 ^ p / den = num % den * 10 ^ p / den + 10 ^ p * (num / den) := by
  have e : num * 10 ^ p = num % den * 10 ^ p + den * (10 ^ p * (num / den)) := by
    have := Nat.mod_add_div num den
    conv => lhs; rw [← this]
    rw [Nat.add_mul, Nat.mul_assoc, Nat.mul_comm (num / den)]
  rw [e, Nat.add_mul_div_left _ _ hd]
theorem txt_dec {num den p : Nat} (hd : 0 < den) (hp : 0 < p) : padl (p + 1) (txtl 10 (num * 10 ^ p / den)) = txtl 10 (num / den) ++ (decl (num % den) den p).map sg8 := by
  have hr := Nat.mod_lt num hd
  have hv := decl_val hr p
  have ha := all_rev (decl_all (r := num % den) hd p)
  have hl := decl_len (num % den) den p
  have hx := quo_pow (num := num) hd p
  rw [← hv] at hx
  generalize num * 10 ^ p / den = x at *
  generalize num / den = q at *
  generalize num % den = r at *
  clear hv
  generalize hf : (decl r den p) = fs at *
  have hfl : fs.reverse.length = p := by simp [hl]
  by_cases hq : q = 0
  · subst hq
    have h0 : txtl 10 0 = [48] := rfl
    rw [Nat.mul_zero, Nat.add_zero] at hx
    have hs := strip_eq_dg (b := 10) (by omega) ha
    rw [← hx] at hs
    have hpd := strip_padl fs.reverse
    rw [hs, hfl] at hpd
    have hle : (dg 10 x).length ≤ p := by rw [← hs, ← hfl]; exact strip_length_le _
    have hfs : fs = List.replicate (p - (dg 10 x).length) 0 ++ (dg 10 x).reverse := by
      have := congrArg List.reverse hpd
      simpa using this
    rw [h0, hfs]
    have e48 : sg8 0 = 48 := rfl
    by_cases h : x = 0
    · have hd0 : dg 10 x = [] := (dg_nil_iff (by omega)).2 h
      rw [h, h0, padl, h] at *
      rw [hd0]
      simp only [List.length_cons, List.length_nil, List.reverse_nil, List.append_nil, List.map_replicate, e48, Nat.sub_zero, Nat.zero_add, Nat.add_sub_cancel]
      rw [← List.replicate_succ', List.replicate_succ]; rfl
    · rw [txtl, if_neg h, padl]
      simp only [List.length_map, List.length_reverse, List.map_append, List.map_replicate, e48]
      rw [show p + 1 - (dg 10 x).length = (p - (dg 10 x).length) + 1 by omega, List.replicate_succ]
      rfl
  · have hqn : dg 10 q ≠ [] := fun h => hq ((dg_nil_iff (by omega)).1 h)
    have hn := norm_app (xs := fs.reverse) (dg_norm (b := 10) q) hqn
    have hdx := norm_dg (b := 10) (by omega) (ha.append (dg_all (by omega) q)) hn
    rw [val_append, dg_val (by omega), hfl, ← hx] at hdx
    have hx0 : x ≠ 0 := by
      intro h
      rw [(dg_nil_iff (b := 10) (by omega)).2 h] at hdx
      simp at hdx
      exact hqn hdx.2
    have e : txtl 10 x = txtl 10 q ++ fs.map sg8 := by
      rw [txtl, if_neg hx0, txtl, if_neg hq, ← hdx]
      simp [sg8]
    have hlen : p + 1 ≤ (txtl 10 x).length := by
      rw [e, txtl, if_neg hq]
      have : 0 < (dg 10 q).length := List.length_pos_iff.2 hqn
      simp [hl]; omega
    rw [padl, show p + 1 - (txtl 10 x).length = 0 by omega, e]; rfl

/-- where a quotient ends -/
def PlOk (r den M n : Nat) (b : Bool) : Prop := (b = true ∧ n ≤ M ∧ r * 10 ^ n % den = 0 ∧ ∀ j, j < n → r * 10 ^ j % den ≠ 0) ∨ (b = false ∧ n = 0 ∧ ∀ j, j ≤ M → r * 10 ^ j % den ≠ 0)
theorem PlOk.uniq {r den M n n' : Nat} {b b' : Bool} (h : PlOk r den M n b) (h' : PlOk r den M n' b') : n = n' ∧ b = b' := by
  rcases h with ⟨rfl, h1, h2, h3⟩ | ⟨rfl, h1, h2⟩ <;> rcases h' with ⟨rfl, k1, k2, k3⟩ | ⟨rfl, k1, k2⟩
  · refine ⟨?_, rfl⟩
    rcases Nat.lt_trichotomy n n' with h | h | h
    · exact absurd h2 (k3 _ h)
    · exact h
    · exact absurd k2 (h3 _ h)
  · exact absurd h2 (k2 _ h1)
  · exact absurd k2 (h2 _ k1)
  · exact ⟨by omega, rfl⟩
theorem nb_half {d g : Nat} (hg : 2 ≤ g) (hd : 0 < d) : nb d + 1 ≤ nb (g * d) := by
  have h1 := (nb_le hd)
  have h2 := nb_lt (g * d)
  have h3 : 2 ^ (nb d) ≤ g * d := by
    have e : nb d = (nb d - 1) + 1 := by omega
    rw [e, Nat.pow_succ, Nat.mul_comm _ 2]
    exact Nat.mul_le_mul hg h1.1
  have h4 : 2 ^ nb d < 2 ^ nb (g * d) := by omega
  have := (Nat.pow_lt_pow_iff_right (a := 2) (by omega)).1 h4
  omega
theorem dvd_tens {d p : Nat} (h0 : 0 < d) (h : d ∣ 10 ^ p) : d ∣ 10 ^ nb d := by
  induction d using Nat.strongRecOn with
  | _ d ih =>
    by_cases hg : Nat.gcd d 10 = 1
    · have hc : Nat.Coprime d (10 ^ p) := Nat.Coprime.pow_right p hg
      have : d = 1 := Nat.Coprime.eq_one_of_dvd hc h
      rw [this]; exact Nat.one_dvd _
    · have hgp : 0 < Nat.gcd d 10 := Nat.gcd_pos_of_pos_left _ h0
      obtain ⟨e, he⟩ := Nat.gcd_dvd_left d 10
      have he0 : 0 < e := by
        rcases Nat.eq_zero_or_pos e with h1 | h1
        · rw [h1] at he; omega
        · exact h1
      have hg10 := Nat.gcd_dvd_right d 10
      generalize Nat.gcd d 10 = g at *
      have hlt : e < d := by
        have : 2 * e ≤ g * e := Nat.mul_le_mul_right _ (by omega)
        omega
      have h2 := ih e hlt he0 (Nat.dvd_trans ⟨g, by rw [he, Nat.mul_comm]⟩ h)
      have h3 := nb_half (g := g) (by omega) he0
      rw [← he] at h3
      have h4 : d ∣ 10 ^ (nb e + 1) := by
        rw [he, Nat.pow_succ, Nat.mul_comm g]
        exact Nat.mul_dvd_mul h2 hg10
      exact Nat.dvd_trans h4 (Nat.pow_dvd_pow 10 h3)
theorem dvd_tens_mul {r d p : Nat} (h0 : 0 < d) (h : d ∣ r * 10 ^ p) : d ∣ r * 10 ^ nb d := by
  have hgp : 0 < Nat.gcd d r := Nat.gcd_pos_of_pos_left _ h0
  obtain ⟨e, he⟩ := Nat.gcd_dvd_left d r
  have hc : Nat.Coprime (d / Nat.gcd d r) (r / Nat.gcd d r) := Nat.coprime_div_gcd_div_gcd hgp
  obtain ⟨s, hs⟩ := Nat.gcd_dvd_right d r
  generalize hG : Nat.gcd d r = g at *
  have e1 : d / g = e := by rw [he, Nat.mul_div_cancel_left _ hgp]
  have e2 : r / g = s := by rw [hs, Nat.mul_div_cancel_left _ hgp]
  rw [e1, e2] at hc
  have he0 : 0 < e := by
    rcases Nat.eq_zero_or_pos e with h1 | h1
    · rw [h1] at he; omega
    · exact h1
  have h1 : e ∣ s * 10 ^ p := by
    rw [he, hs, Nat.mul_assoc] at h
    exact Nat.dvd_of_mul_dvd_mul_left hgp h
  have h2 : e ∣ 10 ^ p := Nat.Coprime.dvd_of_dvd_mul_left hc h1
  have h3 := dvd_tens he0 h2
  have h4 : nb e ≤ nb d := by
    rcases Nat.lt_or_ge g 2 with hg | hg
    · have : g = 1 := by omega
      rw [he, this, Nat.one_mul]; exact Nat.le_refl _
    · have := nb_half (g := g) hg he0
      rw [← he] at this
      omega
  have h5 : e ∣ 10 ^ nb d := Nat.dvd_trans h3 (Nat.pow_dvd_pow 10 h4)
  have h6 : g * e ∣ (g * s) * 10 ^ nb d := Nat.mul_dvd_mul ⟨s, rfl⟩ h5
  rw [← he, ← hs] at h6
  exact h6
theorem mod_pow_mod (num den p : Nat) : num % den * 10 ^ p % den = num * 10 ^ p % den := by rw [Nat.mod_mul_mod]
theorem plOk_exact {num den n p : Nat} {b : Bool} (hd : 0 < den) (h : PlOk (num % den) den (nb den) n b) : decide (num * 10 ^ p % den = 0) = (b && decide (n ≤ p)) := by
  rw [← mod_pow_mod]
  generalize num % den = r at *
  rcases h with ⟨rfl, h1, h2, h3⟩ | ⟨rfl, h1, h2⟩
  · rw [Bool.true_and, decide_eq_decide]
    constructor
    · intro h
      rcases Nat.lt_or_ge p n with h4 | h4
      · exact absurd h (h3 _ h4)
      · exact h4
    · intro h
      have h5 : den ∣ r * 10 ^ n := Nat.dvd_of_mod_eq_zero h2
      obtain ⟨k, rfl⟩ : ∃ k, p = n + k := ⟨p - n, by omega⟩
      rw [Nat.pow_add, ← Nat.mul_assoc]
      exact Nat.mod_eq_zero_of_dvd (Nat.dvd_mul_right_of_dvd h5 _)
  · rw [Bool.false_and, decide_eq_false_iff_not]
    intro h
    exact h2 _ (Nat.le_refl _) (Nat.mod_eq_zero_of_dvd (dvd_tens_mul hd (Nat.dvd_of_mod_eq_zero h)))
end Go.Proofs.YtajoafcondgelaaGreatDoor
namespace Go.Proofs.YtajoafcondgelaaGreatDoor
open Go.Shelf Go.RowKit
set_option linter.unusedVariables false

shelf_lay Lays.n105 Nm 105 at Tryz as Tryz.laysRepeat

theorem Tryz.extraRepeat : Builder.Extra Tryz.prog Tryz.laysRepeat_ren where
  sizeBuilder := by kernel_rfl
  liesBuilder := by kernel_rfl
  t5 := Tryz.laysRepeat.t5
  a5 := Tryz.laysRepeat.a5
  z5 := Tryz.laysRepeat.z5
  v5 := Tryz.laysRepeat.v5
  infoByte := by kernel_rfl
  cellsByte := by kernel_rfl
  sizeByte := by kernel_rfl
  neB5 := by decide
theorem Tryz.fRepeat : Tryz.laysRepeat_ren.f 105 = 33 := by kernel_rfl
theorem repeatL_one' (x : UInt8) (c : Nat) : Lib.repeatL [x] c = List.replicate c x := by
  induction c with
  | zero => rfl
  | succ c ih => rw [Lib.repeatL, ih, List.replicate_succ]; rfl
theorem repeat_any {x : UInt8} {c : Nat} {c' : Int} {w : World} (ec : c' = (c : Int)) (hc : c ≤ 100000) :
    Calls Tryz.prog 33 #[.string ⟨#[x]⟩, .int .i64 c'] w (Keeps (.string ⟨(List.replicate c x).toArray⟩) w) := by
  subst ec
  have h := Any.strings_Repeat Tryz.laysRepeat Tryz.extraRepeat ⟨#[x]⟩ c w (by omega) (by show 1 * c ≤ _; omega)
  rw [Tryz.fRepeat] at h
  refine h.mono fun e w' ⟨he, hw⟩ => ⟨?_, hw⟩
  rw [he]
  have e : (ByteArray.mk #[x]).data.toList = [x] := rfl
  rw [e, repeatL_one']
end Go.Proofs.YtajoafcondgelaaGreatDoor
namespace Go.Proofs.YtajoafcondgelaaGreatDoor
open Go.RowKit
set_option linter.unusedVariables false

/-- the call's own bytes; behind the last place may lie a frozen one -/
def OwnY (t : TypeId) (B : Nat) (w : World) (A : Option Addr) (n c : Nat) (xs : List Nat) : Prop :=
  xs.length = n ∧ ∃ g cur fz, A = some ⟨g, 0, none⟩ ∧ B ≤ g ∧ w.heap[g]? = some (.cells cur t fz) ∧ (fz.2 = 0 ∨ c ≤ fz.1) ∧ n ≤ c ∧ c ≤ maxLen ∧ cur.size = c ∧ cur.toList.take n = xs.map (iv .u8)
theorem OwnY.below {t : TypeId} {B n c : Nat} {w w' : World} {A : Option Addr} {xs : List Nat} (h : OwnY t B w A n c xs) (hb : Below w.heap.size w w') : OwnY t B w' A n c xs := by
  obtain ⟨h0, g, cur, fz, h1, h2, h3, h4⟩ := h
  refine ⟨h0, g, cur, fz, h1, h2, ?_, h4⟩
  rw [hb.block g (Array.getElem?_eq_some_iff.1 h3).1]
  exact h3
theorem OwnY.cell {t : TypeId} {B n c : Nat} {w : World} {A : Option Addr} {xs : List Nat} (h : OwnY t B w A n c xs) : ∃ g, A = some ⟨g, 0, none⟩ ∧ ∀ j, j < n → w.cell? ⟨g, j, none⟩ = some (.int .u8 ((nth xs j : Nat) : Int)) := by
  obtain ⟨h0, g, cur, fz, h1, h2, h3, h4, h5, h6, h7, h8⟩ := h
  refine ⟨g, h1, fun j hj => ?_⟩
  rw [cell_of_row w g j cur t fz h3]
  have e : cur.toList[j]? = (cur.toList.take n)[j]? := by rw [List.getElem?_take, if_pos hj]
  rw [← Array.getElem?_toList, e, h8, List.getElem?_map, List.getElem?_eq_getElem (by omega), nth_lt (by omega)]
  rfl
theorem run_append_one {P : Program} (w : World) (t ty e : TypeId) (i : TypeInfo) (ht : P.underlying t = some (.slice e)) (hi : P.info? e = some i) (hs1 : i.size = 1)
    (g n c : Nat) (cur : Array Value) (fz : Nat × Nat) (hg : w.heap[g]? = some (.cells cur e fz)) (hfz : fz.2 = 0 ∨ c ≤ fz.1) (hcs : cur.size = c)
    (ad : Addr) (v : Value) (hv : w.cell? ad = some v) (h1 : v.oneCell' = true) (hroom : n + 1 ≤ c) :
    (Builtin.append_ #[t, t] ty #[.slice (some ⟨g, 0, none⟩) n c, .slice (some ad) 1 1]).run P w = .ok (.slice (some ⟨g, 0, none⟩) (n + 1) c) (w.setRow g (cur.setIfInBounds n v)) := by
  have hf := run_firstCells_some (P := P) w 1 1 ad 1 1 [v] rfl (fun j u hj => by
    rcases j with _ | j
    · simp at hj; subst hj
      have : ad.add 0 = ad := by unfold Addr.add; split <;> simp_all
      rw [this]; exact hv
    · simp at hj)
  have hadd : (⟨g, n, none⟩ : Addr).add 0 = ⟨g, n, none⟩ := by unfold Addr.add; split <;> simp_all
  have hcell : w.cell? ⟨g, n, none⟩ = some cur[n] := by simp [World.cell?, hg, show n < cur.size by omega]
  have hfro : w.frozen? ⟨g, n, none⟩ = false := by
    obtain ⟨lo, hi'⟩ := fz
    simp only [World.frozen?, hg, Bool.and_eq_false_iff, decide_eq_false_iff_not]
    simp only at hfz
    omega
  have hst : (storeCells ⟨g, n, none⟩ [v] 0).run P w = .ok () (w.setRow g (cur.setIfInBounds n v)) := by
    simp only [storeCells, Sem.run_bind, hadd]
    rw [run_store P w _ v _ h1, hcell]
    simp [hfro, setCell_eq_setRow w g n cur e fz v hg]
  simp [Builtin.append_, run_underlying ht, sizeOf, typeInfo, hi, hs1, Builtin.lenOf, hroom, hf, Addr.add_lit, hst]
/-- nothing but a row of type t was written -/
def GrY (t : TypeId) (w w' : World) : Prop := ∃ row, w.grownBy w' row ∧ ∀ g, row = some g → ∃ cur fz, w.heap[g]? = some (.cells cur t fz)
theorem Own.gry {k : IntKind} {t T : TypeId} {B n c : Nat} {A : Option Addr} {xs : List Nat} {w w' : World} (ho : Own k t B w A n c xs) (hg : GrY T w w') (hne : t ≠ T) : Own k t B w' A n c xs := by
  obtain ⟨row, hg, hr⟩ := hg
  refine World.ownsRow.kept ho hg ?_
  rcases ho.2 with ⟨h1, _⟩ | ⟨g, cap, cur, h1, _, hgb, _⟩
  · injection h1 with h1 _ _
    subst h1
    exact .inl rfl
  · injection h1 with h1 _ _
    subst h1
    refine .inr fun e => ?_
    obtain ⟨cur2, fz, hgb2⟩ := hr g (by simpa [Value.ownBlock] using e.symm)
    rw [hgb] at hgb2
    injection hgb2 with hgb2
    injection hgb2 with _ e2 _
    exact hne e2
theorem OwnY.app1 {P : Program} {T t ty : TypeId} {B n c y : Nat} {w : World} {A : Option Addr} {xs : List Nat} (he : Elem8 P T t) (h : OwnY t B w A n c xs) {ad : Addr} (hc : w.cell? ad = some (.int .u8 (y : Int))) (hlen : n + 1 ≤ 1099511627776) (hB : B ≤ w.heap.size) :
    ∃ A' c' w', (Builtin.append_ #[T, T] ty #[.slice A n c, .slice (some ad) 1 1]).run P w = .ok (.slice A' (n + 1) c') w' ∧ OwnY t B w' A' (n + 1) c' (xs ++ [y]) ∧ Below B w w' ∧ GrY t w w' := by
  obtain ⟨hT, hinfo⟩ := he
  obtain ⟨i, hi, hr⟩ := Option.map_eq_some_iff.1 hinfo
  simp only [Prod.mk.injEq] at hr
  obtain ⟨hz, hs1, hb⟩ := hr
  have hcells := h.cell
  obtain ⟨h0, g, cur, fz, rfl, h2, h3, h4, h5, h6, h7, h8⟩ := h
  have hgl : g < w.heap.size := (Array.getElem?_eq_some_iff.1 h3).1
  by_cases hroom : n + 1 ≤ c
  · have hr := run_append_one (P := P) w T ty t i hT hi hs1 g n c cur fz h3 h4 h7 ad _ hc (by simp [Value.oneCell']) hroom
    refine ⟨_, _, _, hr, ⟨by simp [h0], g, _, fz, rfl, h2, setRow_heap w g cur _ t fz h3, h4, hroom, h6, by simpa using h7, ?_⟩, ?_⟩
    · rw [Array.toList_setIfInBounds, List.map_append, ← h8]
      rw [List.take_succ_eq_append_getElem (by simp; omega)]
      simp [List.take_set, iv]
      rw [List.set_eq_of_length_le (by simp; omega)]
    · have hgr : w.grownBy (w.setRow g (cur.setIfInBounds n (.int .u8 (y : Int)))) (some g) := ⟨rfl, rfl, rfl, by simp, fun k _ hk => setRow_other w g k _ (fun e => hk (by rw [e]))⟩
      exact ⟨(Below.refl _ _).grown (row := some g) hgr hB (fun k hk => by cases hk; exact h2), some g, hgr, fun k hk => by cases hk; exact ⟨_, _, h3⟩⟩
  · obtain ⟨g', e, hcl⟩ := hcells
    obtain rfl : g' = g := by cases e; rfl
    have hr := run_append_grow (P := P) w T ty t i (.int .u8 0) hT hi hz ⟨g', 0, none⟩ n c (xs.map (iv .u8)) (by rw [List.length_map, h0, hs1, Nat.mul_one])
      (fun j v hj => by
        have hj' : j < n := by have := (List.getElem?_eq_some_iff.1 hj).1; simpa [h0] using this
        rw [addo, Nat.zero_add, hcl j hj', ← hj, List.getElem?_map, List.getElem?_eq_getElem (by omega), nth_lt (by omega)]
        rfl)
      ad 1 1 [.int .u8 (y : Int)] (by simp [hs1]) (fun j u hj => by
        rcases j with _ | j
        · simp at hj; subst hj
          have : ad.add 0 = ad := by unfold Addr.add; split <;> simp_all
          rw [this]; exact hc
        · simp at hj)
      (by omega) (by omega) (growslice_fits (by omega) (by rw [hb]; omega))
    have hge := grownCap_ge w (n + 1) c t
    have hcm : grownCap w (n + 1) c t ≤ maxLen := grownCap_le_maxLen w (n + 1) c t (by simp only [maxLen]; omega)
    refine ⟨_, _, _, hr, ⟨by simp [h0], w.heap.size, _, (0, 0), rfl, hB, heap_alloc_new w.drew _, .inl rfl, hge, hcm, ?_, ?_⟩, ?_⟩
    · simp only [Array.size_append, List.size_toArray, size_zeroCells, List.length_map, h0]
      simp [Value.cells]; omega
    · simp only [Array.toList_append, List.append_assoc, List.map_append]
      rw [← List.append_assoc, List.take_append_of_le_length (by simp [h0]), List.take_of_length_le (by simp [h0])]
      rfl
    · have hgr : ∀ o : Obj, w.grownBy (w.drew.alloc o) none := fun o => ⟨rfl, rfl, rfl, by simp, fun k hk _ => heap_alloc_old w.drew o hk⟩
      exact ⟨(Below.refl _ _).grown (row := none) (hgr _) hB (fun k hk => by cases hk), none, hgr _, fun k hk => by cases hk⟩
theorem wpList_app81y {P : Program} {T t : TypeId} {B : Nat} {w : World} {A : Option Addr} {n c y : Nat} {xs : List Nat} {ops : Array Oper} {rest : List Oper} {o : Oper} {a : Act} {Q : Exit → Act → World → Prop} (hgd : o.guard = none) (s x : Operand)
    (ho : o.op = .call { callee := .builtin .append, args := #[s, x], argTypes := #[T, T] }) (he : Elem8 P T t)
    (hs : a.eval s = .slice A n c) {ad : Addr} (hx : a.eval x = .slice (some ad) 1 1) (hown : OwnY t B w A n c xs) (hc : w.cell? ad = some (.int .u8 (y : Int))) (hlen : n + 1 ≤ 1099511627776) (hB : B ≤ w.heap.size)
    (h : ∀ A' c' w', OwnY t B w' A' (n + 1) c' (xs ++ [y]) → Below B w w' → GrY t w w' → wpList P ops Q rest (a.put o.dst (.slice A' (n + 1) c')) w') : wpList P ops Q (o :: rest) a w :=
  wpList_plain hgd fun _ hK => by
    obtain ⟨A', c', w', hr, h2, h3, h4⟩ := hown.app1 (ty := o.type) he hc hlen hB
    unfold Oper.wp execOp
    simp only [ho, resolve, invoke, builtin, Sem.run_bind, Sem.run_pure, Result.andThen_ok, List.map_toArray, List.map_cons, List.map_nil, hs, hx, hr]
    exact hK _ _ (h A' c' w' h2 h3 h4)
/-- '[]byte(s)' -/
theorem conv_there {w : World} {xs : List UInt8} (h0 : 0 < xs.length) (hl : xs.length ≤ 1099511627776) :
    ∃ c w', (convert 9 94 (.string ⟨xs.toArray⟩)).run Tryz.prog w = .ok (.slice (some ⟨w.heap.size, 0, none⟩) xs.length c) w' ∧ OwnY 5 w.heap.size w' (some ⟨w.heap.size, 0, none⟩) xs.length c (xs.map UInt8.toNat) ∧ Below w.heap.size w w' := by
  have hr := run_bytes_of_string (P := Tryz.prog) w 9 94 5 ⟨xs.toArray⟩ Tryz.underlying9 Tryz.underlying94 Tryz.underlying5
  have hsz : (⟨xs.toArray⟩ : ByteArray).size = xs.length := by simp [ByteArray.size]
  rw [hsz] at hr
  have hge := grownCap_ge w xs.length 0 5
  have hcm : grownCap w xs.length 0 5 ≤ maxLen := grownCap_le_maxLen w xs.length 0 5 (by simp only [maxLen]; omega)
  generalize grownCap w xs.length 0 5 = c at *
  have hsb : (bytesRow ⟨xs.toArray⟩ c).size = c := by simp [bytesRow, hsz]; omega
  rw [hsb] at hr
  refine ⟨c, _, hr, ⟨by simp, w.heap.size, _, (c, c + 1), rfl, Nat.le_refl _, heap_alloc_new w.drew _, .inr (Nat.le_refl _), hge, hcm, hsb, ?_⟩, ?_⟩
  · rw [bytesRow]
    simp [hsz]
  · refine (Below.refl _ _).grown (row := none) ⟨rfl, rfl, rfl, by simp, fun k hk _ => heap_alloc_old w.drew _ hk⟩ (Nat.le_refl _) (fun k hk => by cases hk)
/-- 'string(b)' -/
theorem conv_backY {w : World} {g n c : Nat} {t : TypeId} {B : Nat} {zs : List UInt8} (h : OwnY t B w (some ⟨g, 0, none⟩) n c (zs.map UInt8.toNat)) :
    (convert 94 9 (.slice (some ⟨g, 0, none⟩) n c)).run Tryz.prog w = .ok (.string ⟨zs.toArray⟩) w := by
  have hl : zs.length = n := by have := h.1; simpa using this
  obtain ⟨g', e, hcl⟩ := h.cell
  obtain rfl : g' = g := by cases e; rfl
  have hcv := run_convert_bytes_back (P := Tryz.prog) w 94 9 5 ⟨g', 0, none⟩ c zs Tryz.underlying94 Tryz.underlying5 Tryz.underlying9 (fun j hj => by
    rw [addo, Nat.zero_add, hcl j (by omega), nth_lt (by simpa using hj)]
    simp)
  rw [hl] at hcv
  exact hcv
end Go.Proofs.YtajoafcondgelaaGreatDoor
namespace Go.Proofs.YtajoafcondgelaaGreatDoor
open Go.RowKit
set_option linter.unusedVariables false

/-- where a quotient ends, or that it never does -/
def GPl (w : World) (num den : Nat) (e : Ending) (w' : World) : Prop :=
  ∃ (n : Nat) (b : Bool), e = .returned (.tuple #[.int .i64 (n : Int), .bool b, .int .i64 0]) ∧ Below w.heap.size w w' ∧ PlOk (num % den) den (nb den) n b
theorem pl_step (r den n : Nat) : r * 10 ^ n % den * 10 % den = r * 10 ^ (n + 1) % den := by
  rw [Nat.mod_mul_mod, Nat.pow_succ, Nat.mul_assoc]
set_option maxHeartbeats 2000000 in
theorem places_any {v u : Value} {num den L K : Nat} {w : World} (h : Num w v num L) (h' : Num w u den K) (hd : 0 < den) (hL : L ≤ 67108864) (hK : K ≤ 67108864) :
    Calls Tryz.prog 15 #[v, u] w (GPl w num den) := by
  have H := Lib.hid h
  have H' := Lib.hid h'
  have HD := Lib.hid hd
  have hnbK : nb den ≤ 64 * K := nb_W h'.lt
  obtain ⟨_, _, _, _, rfl, _⟩ := id h
  obtain ⟨_, _, _, _, rfl, _⟩ := id h'
  clear h h' hd
  obtain ⟨Z, hZ⟩ : ∃ Z, Z = nb den := ⟨_, rfl⟩
  rw [← hZ] at hnbK
  have HZ := Lib.hid hZ
  clear hZ
  go_enter Tryz.func15, Tryz.ntmps15
  go_wp2_with fail
  refine (quo_any H.out H'.out HD.out (by omega) (by omega)).mono ?_
  rintro e w1 ⟨A_q, n_q, c_q, A_r, n_r, c_r, rfl, o_q, o_r, hb1, l_q, l_r⟩
  obtain ⟨R, hR⟩ : ∃ R, R = num % den := ⟨_, rfl⟩
  have HR := Lib.hid hR
  rw [← hR] at o_r
  have hRd : R % den = R := by rw [hR, Nat.mod_mod]
  have HS : Hid (Own .u64 28 w.heap.size w1 A_r n_r c_r (dg W (R * 10 ^ 0 % den)) ∧ Below w.heap.size w w1) := by rw [Nat.pow_zero, Nat.mul_one, hRd]; exact ⟨o_r, hb1⟩
  clear o_r hR hRd
  go_wp2
  go_loopw [8, 10] (fun rv nv wr => ∃ (n m c : Nat) (A : Option Addr), Hid (Own .u64 28 w.heap.size wr A m c (dg W (R * 10 ^ n % den)) ∧ Below w.heap.size w wr ∧ ∀ j, j < n → R * 10 ^ j % den ≠ 0) ∧ m ≤ K ∧ n ≤ Z + 1 ∧ rv = .slice A m c ∧ nv = .int .i64 (n : Int)) (fun _ nv _ => Z + 1 - (intOf nv).toNat)
  case atStart => exact ⟨0, _, _, _, ⟨HS.out.1, HS.out.2, fun j hj => absurd hj (by omega)⟩, by omega, by omega, rfl, rfl⟩
  case round =>
    obtain ⟨n, m, c, A, hI, hm, hn, rfl, rfl⟩ := hrel
    obtain ⟨wo, hwo⟩ : ∃ wo : World, wo = wr := ⟨_, rfl⟩
    have HN := Lib.hid (hI.out.1.num hm)
    have HBB := Lib.hid (H'.out.below hI.out.2.1)
    have CB := Lib.hid (nbits_any HBB.out (by omega))
    rw [← HZ.out] at CB
    clear hwo
    by_cases hle : n ≤ Z
    · have d1 : decide ((n : Int) ≤ (Z : Int)) = true := by simp; exact hle
      rcases Nat.eq_zero_or_pos (R * 10 ^ n % den) with h0 | h0
      · have hz : m = 0 := len_zero hI.out.1 h0
        have HF : Hid (GPl w num den (.returned (.tuple #[.int .i64 (n : Int), .bool true, .int .i64 0])) wr) := ⟨n, true, rfl, hI.out.2.1, by rw [← HR.out, ← HZ.out]; exact .inl ⟨rfl, hle, h0, hI.out.2.2⟩⟩
        subst hz
        clear h0
        go_wp2_with fail
        refine (CB.out).mono ?_
        rintro e w' ⟨rfl, rfl⟩
        go_wp2
        go_ret3
        exact HF.out
      · have hz := len_pos hI.out.1 h0
        have hz2 : ((m : Int) == 0) = false := by rw [beq_eq_false_iff_ne]; omega
        have HNX : Hid (∀ j, j < n + 1 → R * 10 ^ j % den ≠ 0) := fun j hj => by
          by_cases e : j = n
          · rw [e]; omega
          · exact hI.out.2.2 j (by omega)
        clear h0
        have CT := Lib.hid (times_any (y := 10) (y' := 10) HN.out rfl (by rw [W_eq]; omega) (by omega))
        go_wp2_with fail
        refine (CB.out).mono ?_
        rintro e w' ⟨rfl, rfl⟩
        go_wp2_with fail
        refine CT.out.mono ?_
        rintro e wt ⟨A_t, n_t, c_t, rfl, o_t, hbt, l_t⟩
        have CM := Lib.hid (mod_any (o_t.num l_t) (HBB.out.below hbt) HD.out (by omega) (by omega))
        rw [pl_step] at CM
        have HBT := Lib.hid (bt hI.out.2.1 hbt)
        clear o_t
        go_wp2_with fail
        refine CM.out.mono ?_
        rintro e wm ⟨A_m, n_m, c_m, rfl, o_m, hbm, l_m⟩
        have HX : Hid (Own .u64 28 w.heap.size wm A_m n_m c_m (dg W (R * 10 ^ (n + 1) % den)) ∧ Below w.heap.size w wm ∧ ∀ j, j < n + 1 → R * 10 ^ j % den ≠ 0) := ⟨o_m.mono HBT.out.size, bt HBT.out hbm, HNX.out⟩
        clear o_m hbm hbt
        go_wp2
        go_roundw
        case rel => exact ⟨n + 1, _, _, _, HX, l_m, by omega, rfl, by go_num⟩
        case measure => simp [intOf]; omega
    · obtain rfl : n = Z + 1 := by omega
      have d1 : decide (((Z + 1 : Nat) : Int) ≤ (Z : Int)) = false := by simp; omega
      have HF : Hid (GPl w num den (.returned (.tuple #[.int .i64 0, .bool false, .int .i64 0])) wr) := ⟨0, false, rfl, hI.out.2.1, by rw [← HR.out, ← HZ.out]; exact .inr ⟨rfl, rfl, fun j hj => hI.out.2.2 j (by omega)⟩⟩
      go_wp2_with fail
      refine (CB.out).mono ?_
      rintro e w' ⟨rfl, rfl⟩
      go_wp2
      go_ret3
      exact HF.out
end Go.Proofs.YtajoafcondgelaaGreatDoor
namespace Go.Proofs.YtajoafcondgelaaGreatDoor
open Go.RowKit
set_option linter.unusedVariables false

def decT (num den p : Nat) : ByteArray := if p = 0 then txt 10 (num / den) else ⟨(txtl 10 (num / den) ++ 46 :: (decl (num % den) den p).map sg8).toArray⟩
theorem bsize (l : List UInt8) : (ByteArray.mk l.toArray).size = l.length := by simp [ByteArray.size]
theorem bext (l : List UInt8) (a b : Nat) : (ByteArray.mk l.toArray).extract a b = ByteArray.mk ((l.drop a).take (b - a)).toArray := ByteArray.extract_mk l a b
theorem dec_parts {num den p : Nat} (hd : 0 < den) (hp : 0 < p) {S : ByteArray} (hS : S = txt 10 (num * 10 ^ p / den)) :
    ∃ (T F G : ByteArray) (m : Nat), T.size = m + p ∧ T.extract 0 m = F ∧ T.extract m T.size = G ∧ ByteArray.mk (List.replicate (p + 1 - S.size) 48).toArray ++ S = T ∧ (p < S.size → S = T) ∧
      F ++ ByteArray.mk #[46] ++ G = decT num den p ∧ F.size = m ∧ G.size = p ∧ T.size ≤ S.size + p + 1 := by
  have h := txt_dec (num := num) hd hp
  have hl := decl_len (num % den) den p
  subst hS
  rw [decT, if_neg (by omega), txt]
  generalize txtl 10 (num * 10 ^ p / den) = s at *
  generalize txtl 10 (num / den) = f at *
  generalize decl (num % den) den p = g at *
  have hgl : (g.map sg8).length = p := by rw [List.length_map, hl]
  generalize g.map sg8 = g at *
  rw [padl] at h
  have hsz := congrArg List.length h
  simp only [List.length_append, List.length_replicate] at hsz
  rw [bsize]
  refine ⟨⟨(f ++ g).toArray⟩, ⟨f.toArray⟩, ⟨g.toArray⟩, f.length, ?_, ?_, ?_, ?_, ?_, ?_, ?_, ?_, ?_⟩
  · rw [bsize, List.length_append, hgl]
  · rw [bext]; simp
  · rw [bext, bsize]; simp
  · rw [ByteArray.mk_append_mk, h]
  · intro hlt
    rw [← h, show p + 1 - s.length = 0 by omega]; simp
  · rw [show (ByteArray.mk #[46]) = ByteArray.mk [46].toArray from rfl, ByteArray.mk_append_mk, ByteArray.mk_append_mk]
    simp
  · rw [bsize]
  · rw [bsize, hgl]
  · rw [bsize, List.length_append]; omega
set_option maxHeartbeats 400000 in
theorem rten_le {N : Nat} {n' : Int} {w : World} (en : n' = (N : Int)) (hN : N ≤ 10000) : Calls Tryz.prog 10 #[.int .i64 n'] w (GNE w (10 ^ N) (N + 1) 0) := by
  subst en
  have d1 : decide ((N : Int) < 0) = false := by simp
  have d2 : decide ((10000 : Int) < (N : Int)) = false := by simp; omega
  have C := Lib.hid (pow_any (N := N) (n' := (N : Int)) (num10 (w := w)) rfl (by omega) (by omega) (by omega))
  go_enter Tryz.func10, Tryz.ntmps10
  go_wp2_with fail
  refine C.out.mono ?_
  rintro e w1 ⟨A, n, c, rfl, ho, hb, hl⟩
  have HR : Hid (Own .u64 28 w.heap.size w1 A n c (dg W (10 ^ N)) ∧ Below w.heap.size w w1 ∧ n ≤ N + 1) := ⟨ho.mono (by simp), bt (belowA _ _) hb, by omega⟩
  clear ho hb
  go_wp2
  go_ret2
  exact ⟨_, _, _, rfl, HR.out⟩
set_option maxHeartbeats 2000000 in
theorem decimal_any {v u : Value} {num den L K p : Nat} {p' : Int} {w : World} (h : Num w v num L) (h' : Num w u den K) (hs : SG w) (ep : p' = (p : Int)) (hd : 0 < den) (hp : p ≤ 10000) (hL : L ≤ 8388608) (hK : K ≤ 67108864) :
    Calls Tryz.prog 14 #[v, u, .int .i64 p'] w (Keeps (.tuple #[.string (decT num den p), .int .i64 0]) w) := by
  subst ep
  have H := Lib.hid h
  have H' := Lib.hid h'
  have HD := Lib.hid hd
  have HS := Lib.hid hs
  obtain ⟨S, hS⟩ : ∃ S, S = txt 10 (num * 10 ^ p / den) := ⟨_, rfl⟩
  have hSL : S.size ≤ 2147483648 := by
    have h1 : num * 10 ^ p / den < W ^ (L + (p + 1)) := by
      refine Nat.lt_of_le_of_lt (Nat.div_le_self _ _) ?_
      rw [Nat.pow_add]
      refine Nat.mul_lt_mul_of_lt_of_lt h.lt ?_
      exact Nat.lt_of_lt_of_le (Nat.pow_lt_pow_right (by omega) (by omega)) (Nat.pow_le_pow_left (by rw [W_eq]; omega) _)
    have := txt_len (b := 10) (by omega) h1 (by omega)
    rw [hS]; omega
  obtain ⟨_, _, _, _, rfl, _⟩ := id h
  obtain ⟨_, _, _, _, rfl, _⟩ := id h'
  clear h h' hd hs
  have HSX := Lib.hid hS
  by_cases h0 : p = 0
  · have e0 : ((p : Int) == 0) = true := by simp; omega
    have HT : Hid (S = decT num den p) := by show _ = _; rw [hS, decT, if_pos h0, h0, Nat.pow_zero, Nat.mul_one]
    clear hS h0
    go_enter Tryz.func14, Tryz.ntmps14
    go_wp2_with fail
    refine (rten_le rfl hp).mono ?_
    rintro e w1 ⟨A_t, n_t, c_t, rfl, o_t, hb1, l_t⟩
    go_wp2_with fail
    refine (mul_any (H.out.below hb1) (o_t.num l_t) (by omega) (by omega)).mono ?_
    rintro e w2 ⟨A_m, n_m, c_m, rfl, o_m, hb2, l_m⟩
    go_wp2_with fail
    refine (quo_any (o_m.num l_m) ((H'.out.below hb1).below hb2) HD.out (by omega) (by omega)).mono ?_
    rintro e w3 ⟨A_q, n_q, c_q, A_r, n_r, c_r, rfl, o_q, o_r, hb3, l_q, l_r⟩
    have CS := Lib.hid (rformat_any (w := w3) (o_q.num l_q) (((HS.out.below hb1).below hb2).below hb3) (by omega))
    rw [← HSX.out] at CS
    go_wp2_with fail
    refine (CS.out).mono ?_
    rintro e w4 ⟨rfl, hb4⟩
    have HEND := Lib.hid (bt (bt (bt hb1 hb2) hb3) hb4)
    go_wp2
    go_ret2
    exact ⟨by rw [HT.out]; rfl, HEND.out⟩
  · have e0 : ((p : Int) == 0) = false := by rw [beq_eq_false_iff_ne]; omega
    obtain ⟨T, F, G, m, t1, t2, t3, t4, t5, t6, t7, t8, t9⟩ := dec_parts HD.out (by omega) hS
    have HT := Lib.hid t6
    have t0 : (T.size : Int) - (p : Int) = (m : Int) := by omega
    have u1 : ∀ w, (Op.stringOp .add F ⟨#[46]⟩).run Tryz.prog w = .ok (.string (F ++ ⟨#[46]⟩)) w := fun w => run_string_add_sum w _ _ (by show F.size + 1 ≤ _; omega)
    have u2 : ∀ w, (Op.stringOp .add (F ++ ⟨#[46]⟩) G).run Tryz.prog w = .ok (.string (F ++ ⟨#[46]⟩ ++ G)) w := fun w => run_string_add_sum w _ _ (by rw [ByteArray.size_append]; show F.size + 1 + _ ≤ _; omega)
    have tm : m ≤ 4294967296 := by omega
    have tm2 : (m : Int) ≤ (T.size : Int) := by omega
    have tm3 : T.size ≤ 4294967296 := by omega
    have tm4 := lay (show IntKind.i64.wrap (m : Int) = (m : Int) from IntWalk.i64_in _ (by omega))
    by_cases hlt : p < S.size
    · have e1 : decide ((S.size : Int) ≤ (p : Int)) = false := by simp; omega
      have e1' : decide (S.size ≤ p) = false := by simp; omega
      obtain rfl := t5 hlt
      clear hS h0 hlt t1 t6 t4 t5 t7 t8 t9
      go_enter Tryz.func14, Tryz.ntmps14
      go_wp2_with fail
      refine (rten_le rfl hp).mono ?_
      rintro e w5 ⟨A_t, n_t, c_t, rfl, o_t, hb5, l_t⟩
      go_wp2_with fail
      refine (mul_any (H.out.below hb5) (o_t.num l_t) (by omega) (by omega)).mono ?_
      rintro e w6 ⟨A_m, n_m, c_m, rfl, o_m, hb6, l_m⟩
      go_wp2_with fail
      refine (quo_any (o_m.num l_m) ((H'.out.below hb5).below hb6) HD.out (by omega) (by omega)).mono ?_
      rintro e w7 ⟨A_q, n_q, c_q, A_r, n_r, c_r, rfl, o_q, o_r, hb7, l_q, l_r⟩
      have CS := Lib.hid (rformat_any (w := w7) (o_q.num l_q) (((HS.out.below hb5).below hb6).below hb7) (by omega))
      rw [← HSX.out] at CS
      go_wp2_with fail
      refine (CS.out).mono ?_
      rintro e w8 ⟨rfl, hb8⟩
      have HEND := Lib.hid (bt (bt (bt hb5 hb6) hb7) hb8)
      go_wp2_with fail
      refine wp_region_grow none [(true, 0), (true, 1), (true, 2), (true, 3), (true, 4), (true, 5), (true, 6), (true, 7), (true, 8), (true, 9), (true, 10), (true, 11), (true, 12), (true, 13), (true, 14), (true, 15)] (by kernel_rfl) (by kernel_rfl) ?_
      repeat (refine ord_pas (by rfl) (fun K hK => ?_); go_simp; refine hK _ _ (fun w' hw' => (by first | (go_simp; done) | (go_simp; intro hh; cases hh))) ?_; clear hK K)
      refine ord_nil ?_
      go_wp2
      go_ret2
      exact ⟨by rw [HT.out]; rfl, HEND.out.drew⟩
    · have e1 : decide ((S.size : Int) ≤ (p : Int)) = true := by simp; omega
      have HLT := Lib.hid hlt
      have hle : S.size ≤ p := by omega
      obtain ⟨Z, hZ⟩ : ∃ Z, Z = ByteArray.mk (List.replicate (p + 1 - S.size) 48).toArray := ⟨_, rfl⟩
      have hZs : Z.size ≤ 20000 := by rw [hZ, bsize, List.length_replicate]; omega
      rw [← hZ] at t4
      have u0 : ∀ w, (Op.stringOp .add Z S).run Tryz.prog w = .ok (.string T) w := fun w => by
        rw [run_string_add_sum w _ _ (by omega), t4]
      have CR := fun w => Lib.hid (repeat_any (x := 48) (c := p + 1 - S.size) (c' := (p : Int) + 1 - (S.size : Int)) (w := w) (by omega) (by omega))
      rw [← hZ] at CR
      have HCR := Lib.hid CR
      clear hZ CR hZs
      clear hS h0 hlt t1 t6 t4 t5 t7 t8 t9
      go_enter Tryz.func14, Tryz.ntmps14
      go_wp2_with fail
      refine (rten_le rfl hp).mono ?_
      rintro e w9 ⟨A_t, n_t, c_t, rfl, o_t, hb9, l_t⟩
      go_wp2_with fail
      refine (mul_any (H.out.below hb9) (o_t.num l_t) (by omega) (by omega)).mono ?_
      rintro e w10 ⟨A_m, n_m, c_m, rfl, o_m, hb10, l_m⟩
      go_wp2_with fail
      refine (quo_any (o_m.num l_m) ((H'.out.below hb9).below hb10) HD.out (by omega) (by omega)).mono ?_
      rintro e w11 ⟨A_q, n_q, c_q, A_r, n_r, c_r, rfl, o_q, o_r, hb11, l_q, l_r⟩
      have CS := Lib.hid (rformat_any (w := w11) (o_q.num l_q) (((HS.out.below hb9).below hb10).below hb11) (by omega))
      rw [← HSX.out] at CS
      go_wp2_with fail
      refine (CS.out).mono ?_
      rintro e w12 ⟨rfl, hb12⟩
      have CZ := Lib.hid (rformat_any (w := w12) Num.nil ((((HS.out.below hb9).below hb10).below hb11).below hb12) (by omega))
      rw [txt_zero] at CZ
      go_wp2_with fail
      refine (CZ.out).mono ?_
      rintro e w13 ⟨rfl, hb13⟩
      go_wp2_with fail
      refine ((HCR.out _).out).mono ?_
      rintro e w14 ⟨rfl, hb14⟩
      have HEND := Lib.hid (bt (bt (bt (bt (bt hb9 hb10) hb11) hb12) hb13) hb14)
      go_wp2_with fail
      refine wp_region_grow none [(true, 0), (true, 1), (true, 2), (true, 3), (true, 4), (true, 5), (true, 6), (true, 7), (true, 8), (true, 9), (true, 10), (true, 11), (true, 12), (true, 13), (true, 14), (true, 15)] (by kernel_rfl) (by kernel_rfl) ?_
      repeat (refine ord_pas (by rfl) (fun K hK => ?_); go_simp; refine hK _ _ (fun w' hw' => (by first | (go_simp; done) | (go_simp; intro hh; cases hh))) ?_; clear hK K)
      refine ord_nil ?_
      go_wp2
      go_ret2
      exact ⟨by rw [HT.out]; rfl, HEND.out.drew⟩
set_option maxHeartbeats 400000 in
theorem decimal_neg {v u : Value} {z : Int} {w : World} (h : z < 0) : Calls Tryz.prog 14 #[v, u, .int .i64 z] w (Keeps (.tuple #[.string ByteArray.empty, .int .i64 3]) w) := by
  have C := Lib.hid (rten_neg (w := w) h)
  clear h
  go_enter Tryz.func14, Tryz.ntmps14
  go_wp2_with fail
  refine C.out.mono ?_
  rintro e w1 ⟨rfl, hb⟩
  have HB := Lib.hid hb
  clear hb
  go_wp2
  go_ret2
  exact ⟨rfl, HB.out⟩
set_option maxHeartbeats 400000 in
theorem decimal_big {v u : Value} {z : Int} {w : World} (h : 10000 < z) : Calls Tryz.prog 14 #[v, u, .int .i64 z] w (Keeps (.tuple #[.string ByteArray.empty, .int .i64 13]) w) := by
  have C := Lib.hid (rten_big (w := w) h)
  clear h
  go_enter Tryz.func14, Tryz.ntmps14
  go_wp2_with fail
  refine C.out.mono ?_
  rintro e w1 ⟨rfl, hb⟩
  have HB := Lib.hid hb
  clear hb
  go_wp2
  go_ret2
  exact ⟨rfl, HB.out⟩
set_option maxHeartbeats 1000000 in
theorem decimal_zero {v u : Value} {num L K p : Nat} {p' : Int} {w : World} (h : Num w v num L) (h' : Num w u 0 K) (ep : p' = (p : Int)) (hp : p ≤ 10000) (hL : L ≤ 8388608) (hK : K ≤ 67108864) :
    Calls Tryz.prog 14 #[v, u, .int .i64 p'] w (Keeps (.tuple #[.string ByteArray.empty, .int .i64 1]) w) := by
  subst ep
  have H := Lib.hid h
  have H' := Lib.hid h'
  obtain ⟨_, _, _, _, rfl, _⟩ := id h
  obtain ⟨_, _, _, _, rfl, _⟩ := id h'
  clear h h'
  go_enter Tryz.func14, Tryz.ntmps14
  go_wp2_with fail
  refine (rten_le rfl hp).mono ?_
  rintro e w1 ⟨A_t, n_t, c_t, rfl, o_t, hb1, l_t⟩
  go_wp2_with fail
  refine (mul_any (H.out.below hb1) (o_t.num l_t) (by omega) (by omega)).mono ?_
  rintro e w2 ⟨A_m, n_m, c_m, rfl, o_m, hb2, l_m⟩
  go_wp2_with fail
  refine (quo_zero (o_m.num l_m) ((H'.out.below hb1).below hb2) rfl (by omega) (by omega)).mono ?_
  rintro e w3 ⟨A_q, n_q, c_q, A_r, n_r, c_r, rfl, o_q, o_r, hb3, l_q, l_r⟩
  have HEND := Lib.hid (bt (bt hb1 hb2) hb3)
  go_wp2
  go_ret2
  exact ⟨rfl, HEND.out⟩
end Go.Proofs.YtajoafcondgelaaGreatDoor
namespace Go.Proofs.YtajoafcondgelaaGreatDoor
open Go.RowKit
set_option linter.unusedVariables false

theorem u8map (l : List UInt8) (d : Nat) (hd : d < 10) : l.map UInt8.toNat ++ [sgn d] = (l ++ [sg8 d]).map UInt8.toNat := by
  rw [List.map_append, List.map_cons, List.map_nil, sg8, sgn_toNat (by omega)]
theorem dg_one10 {d : Nat} (h0 : 0 < d) (h : d < 10) : dg W d = [d] := by
  have := norm_dg (b := W) (xs := [d]) W_gt (All.cons (by rw [W_eq]; omega) All.nil) (by unfold Norm; rw [show [d] = [] ++ [d] from rfl, strip_snoc (by omega)])
  rw [show val W [d] = d by simp [val]] at this
  exact this.symm
end Go.Proofs.YtajoafcondgelaaGreatDoor
