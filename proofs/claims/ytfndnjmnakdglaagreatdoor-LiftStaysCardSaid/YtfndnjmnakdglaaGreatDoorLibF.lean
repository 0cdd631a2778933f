/- What is told of the library comes so. No condition. -/
import Derived.Test.YtfndnjmnakdglaaGreatDoorLibB
import Derived.Lib.ItoaNum
import Derived.Lib.Repeat
import Derived.Lib.Atoi
import Derived.Shelf.Strings.Builder1
import Derived.Shelf.Strings.Builder2
import Derived.Shelf.Small.Strs
import Derived.Shelf.Small.Wraps
import Derived.Shelf.Strings.BuilderF
import Derived.Shelf.Strings.BuilderK
import Derived.Shelf.Strconv.Itoa0
import Derived.Shelf.Strconv.Itoa1
import Derived.Shelf.LaysM
import Derived.Shelf.Strconv.Itoa2
import Derived.Shelf.Strconv.Itoa3
import Derived.Shelf.Strings.Search1
import Derived.Shelf.Strings.Prefix
import Derived.Shelf.Bits.Mul64
import Derived.Shelf.Strings.Repeat
import Derived.Ground.Names2Prog
import Derived.Shelf.Slices.SearchI
import Derived.Ground.SlgnProg
import Derived.Shelf.SlicesE.Clone
import Derived.Test.YtfndnjmnakdglaaGreatDoorProg
import Derived.Test.YtfndnjmnakdglaaGreatDoorLibA
import Derived.Test.YtfndnjmnakdglaaGreatDoorVmW
import Derived.Lib.LaidTab
import Derived.WalkKit
import Derived.BigCall
import Derived.LoopTactic
namespace Go.Proofs.YtfndnjmnakdglaaGreatDoor
open Go Go.Vm Go.Lib
set_option linter.unusedVariables false
def padk : Nat → Nat → List UInt8
  | 0, _ => []
  | k + 1, a => padk k (a / 10) ++ [UInt8.ofNat (48 + a % 10)]
theorem padk_len (k a : Nat) : (padk k a).length = k := by
  induction k generalizing a with
  | zero => rfl
  | succ k ih => simp [padk, ih]
theorem dec_small {a : Nat} (h : a < 10) : decDigits a = [UInt8.ofNat (48 + a)] := by rw [decDigits, dif_pos h]
theorem dec_big {a : Nat} (h : ¬ a < 10) : decDigits a = decDigits (a / 10) ++ [UInt8.ofNat (48 + a % 10)] := by rw [decDigits, dif_neg h]
theorem dec_pad (k : Nat) {m : Nat} (hm : 0 < m) (a : Nat) (h : a < 10 ^ k) : decDigits (a + 10 ^ k * m) = decDigits m ++ padk k a := by
  induction k generalizing a with
  | zero => simp [padk] at h ⊢; subst h; simp
  | succ k ih =>
    have hp : 1 ≤ 10 ^ k := Nat.one_le_pow _ _ (by decide)
    have h1 : 10 ≤ 10 ^ (k + 1) * m := by
      have : 10 * 1 ≤ 10 ^ (k + 1) * m := Nat.mul_le_mul (by rw [Nat.pow_succ]; omega) hm
      omega
    rw [dec_big (by omega)]
    have e : 10 ^ (k + 1) * m = 10 * (10 ^ k * m) := by rw [Nat.pow_succ, Nat.mul_comm (10 ^ k) 10, Nat.mul_assoc]
    have e1 : (a + 10 ^ (k + 1) * m) / 10 = a / 10 + 10 ^ k * m := by rw [e]; omega
    have e2 : (a + 10 ^ (k + 1) * m) % 10 = a % 10 := by rw [e]; omega
    rw [e1, e2, ih (a / 10) (by rw [Nat.pow_succ] at h; omega), padk, List.append_assoc]
theorem pad_zero (k : Nat) : padk k 0 = List.replicate k 48 := by
  induction k with
  | zero => rfl
  | succ k ih => rw [padk, Nat.zero_div, ih, List.replicate_succ']; rfl
theorem pad_eq (k : Nat) {a : Nat} (hk : 1 ≤ k) (h : a < 10 ^ k) : repeatL [48] (k - (decDigits a).length) ++ decDigits a = padk k a := by
  have hr : ∀ n, repeatL [48] n = List.replicate n (48 : UInt8) := fun n => by
    induction n with
    | zero => rfl
    | succ n ih => rw [repeatL, ih, List.replicate_succ]; rfl
  rw [hr]
  induction k generalizing a with
  | zero => omega
  | succ k ih =>
    by_cases ha : a < 10
    · rw [dec_small ha, padk, Nat.div_eq_of_lt ha, Nat.mod_eq_of_lt ha, pad_zero]; simp
    · have hk1 : 1 ≤ k := by
        rcases k with _ | k
        · simp at h; omega
        · omega
      rw [dec_big ha, padk, ← ih hk1 (by rw [Nat.pow_succ] at h; omega), List.length_append]
      simp [List.append_assoc]
theorem dec_len_pos (n : Nat) : 0 < (decDigits n).length := by rw [decDigits_length]; exact nDigits_pos n
theorem dec_len_le {n k : Nat} (hk : 1 ≤ k) (h : n < 10 ^ k) : (decDigits n).length ≤ k := by
  have := congrArg List.length (pad_eq k hk h)
  rw [padk_len, List.length_append] at this
  omega
theorem dec_len_val {l : List Nat} (h : small l) (h0 : l ≠ []) : (decDigits (val l)).length ≤ 9 * l.length := by
  have h1 := val_lt h
  have h2 : 1 ≤ l.length := by cases l <;> simp_all
  rw [show (1000000000 : Nat) = 10 ^ 9 by rfl, ← Nat.pow_mul] at h1
  exact dec_len_le (by omega) h1
theorem dec_step {l : List Nat} {i : Nat} (hi : i < l.length) (h : l[i] < 1000000000) (hv : 0 < val (l.drop (i + 1))) : decDigits (val (l.drop i)) = decDigits (val (l.drop (i + 1))) ++ (repeatL [48] (9 - (decDigits l[i]).length) ++ decDigits l[i]) := by
  rw [List.drop_eq_getElem_cons hi]
  have e : val (l[i] :: l.drop (i + 1)) = l[i] + 10 ^ 9 * val (l.drop (i + 1)) := by simp [val]
  rw [e, dec_pad 9 hv _ (by omega), pad_eq 9 (by omega) (by omega)]
end Go.Proofs.YtfndnjmnakdglaaGreatDoor
namespace Go.Proofs
open Go.Shelf
def Tryz.lays213_ren : Go.Shelf.Ren := ⟨fun | 213 => 173 | 265 => 206 | n => n, fun | 9 => 9 | 3 => 3 | n => n, fun | n => n⟩
def Tryz.lays106_ren : Go.Shelf.Ren := ⟨fun | 106 => 141 | 213 => 173 | 265 => 206 | n => n, fun | 9 => 9 | 3 => 3 | n => n, fun | n => n⟩
theorem Tryz.lays106 : Go.Proofs.Lays.n106 Tryz.prog Tryz.lays106_ren := {
  mixed := by kernel_rfl
  f106 := Tryz.func141.trans (congrArg some (by kernel_rfl))
  f213 := Tryz.func173.trans (congrArg some (by kernel_rfl))
  f265 := Tryz.func206.trans (congrArg some (by kernel_rfl))
  t3 := Tryz.underlying3
  a3 := Tryz.isAgg3
  z3 := Tryz.sizeOf3
  v3 := Tryz.zeroValue3
  t9 := Tryz.underlying9
  a9 := Tryz.isAgg9
  z9 := Tryz.sizeOf9
  v9 := Tryz.zeroValue9 }
open Go.RowKit in
theorem Tryz.strings_Compare (a b : ByteArray) (w : World) :
    Calls Tryz.prog 141 #[.string a, .string b] w fun e w' => e = .returned (.int .i64 (Lib.compareBytes a.data.toList b.data.toList)) ∧ w' = w := Any.strings_Compare Tryz.lays106 a b w
def Tryz.lays137_ren : Go.Shelf.Ren := ⟨fun | 137 => 233 | 217 => 246 | 266 => 250 | n => n, fun | 9 => 9 | 5 => 5 | 3 => 3 | n => n, fun | n => n⟩
theorem Tryz.lays137 : Go.Proofs.Lays.n137 Tryz.prog Tryz.lays137_ren := {
  mixed := by kernel_rfl
  f137 := Tryz.func233.trans (congrArg some (by kernel_rfl))
  f217 := Tryz.func246.trans (congrArg some (by kernel_rfl))
  f266 := Tryz.func250.trans (congrArg some (by kernel_rfl))
  t3 := Tryz.underlying3
  a3 := Tryz.isAgg3
  z3 := Tryz.sizeOf3
  v3 := Tryz.zeroValue3
  t5 := Tryz.underlying5
  a5 := Tryz.isAgg5
  z5 := Tryz.sizeOf5
  v5 := Tryz.zeroValue5
  t9 := Tryz.underlying9
  a9 := Tryz.isAgg9
  z9 := Tryz.sizeOf9
  v9 := Tryz.zeroValue9 }
open Go.RowKit in
theorem Tryz.strings_IndexByte (s : ByteArray) (c : Int) (w : World) :
    Calls Tryz.prog 233 #[.string s, .int .u8 c] w fun e w' => e = .returned (.int .i64 (Lib.indexByte s.data.toList c.toNat.toUInt8)) ∧ w' = w := Any.strings_IndexByte Tryz.lays137 s c w
def Tryz.laysM246_ren : Go.Shelf.Ren := ⟨fun | 246 => 163 | 283 => 197 | 284 => 198 | 285 => 199 | 286 => 200 | 129 => 229 | 317 => 228 | 318 => 230 | 319 => 231 | 320 => 232 | 337 => 244 | 338 => 245 | n => n, fun | 2 => 2 | 3 => 3 | 9 => 9 | 4 => 4 | 171 => 193 | 0 => 0 | 53 => 93 | 37 => 105 | 5 => 5 | 173 => 196 | 212 => 211 | 51 => 61 | 20 => 20 | 213 => 212 | 46 => 147 | 232 => 226 | 233 => 227 | n => n, fun | 17 => 1 | 18 => 2 | 19 => 3 | n => n⟩
def Tryz.laysM243_ren : Go.Shelf.Ren := ⟨fun | 243 => 126 | 246 => 163 | 283 => 197 | 284 => 198 | 285 => 199 | 286 => 200 | 129 => 229 | 317 => 228 | 318 => 230 | 319 => 231 | 320 => 232 | 337 => 244 | 338 => 245 | n => n, fun | 3 => 3 | 9 => 9 | 2 => 2 | 4 => 4 | 171 => 193 | 0 => 0 | 53 => 93 | 37 => 105 | 5 => 5 | 173 => 196 | 212 => 211 | 51 => 61 | 20 => 20 | 213 => 212 | 46 => 147 | 232 => 226 | 233 => 227 | n => n, fun | 17 => 1 | 18 => 2 | 19 => 3 | n => n⟩
def Tryz.laysM171_ren : Go.Shelf.Ren := ⟨fun | 171 => 85 | 243 => 126 | 246 => 163 | 283 => 197 | 284 => 198 | 285 => 199 | 286 => 200 | 129 => 229 | 317 => 228 | 318 => 230 | 319 => 231 | 320 => 232 | 337 => 244 | 338 => 245 | n => n, fun | 3 => 3 | 9 => 9 | 2 => 2 | 4 => 4 | 171 => 193 | 0 => 0 | 53 => 93 | 37 => 105 | 5 => 5 | 173 => 196 | 212 => 211 | 51 => 61 | 20 => 20 | 213 => 212 | 46 => 147 | 232 => 226 | 233 => 227 | n => n, fun | 17 => 1 | 18 => 2 | 19 => 3 | n => n⟩
theorem Tryz.laysM171 : Go.Proofs.LaysM.n171 Tryz.prog Tryz.laysM171_ren := {
  mixed := by kernel_rfl
  f129 := Tryz.func229.trans (congrArg some (by kernel_rfl))
  f171 := Tryz.func85.trans (congrArg some (by kernel_rfl))
  f243 := Tryz.func126.trans (congrArg some (by kernel_rfl))
  f246 := Tryz.func163.trans (congrArg some (by kernel_rfl))
  f283 := Tryz.func197.trans (congrArg some (by kernel_rfl))
  f284 := Tryz.func198.trans (congrArg some (by kernel_rfl))
  f285 := Tryz.func199.trans (congrArg some (by kernel_rfl))
  f286 := Tryz.func200.trans (congrArg some (by kernel_rfl))
  f317 := Tryz.func228.trans (congrArg some (by kernel_rfl))
  f318 := Tryz.func230.trans (congrArg some (by kernel_rfl))
  f319 := Tryz.func231.trans (congrArg some (by kernel_rfl))
  f320 := Tryz.func232.trans (congrArg some (by kernel_rfl))
  f337 := Tryz.func244.trans (congrArg some (by kernel_rfl))
  f338 := Tryz.func245.trans (congrArg some (by kernel_rfl))
  t0 := Tryz.underlying0
  a0 := Tryz.isAgg0
  z0 := Tryz.sizeOf0
  v0 := Tryz.zeroValue0
  t2 := Tryz.underlying2
  a2 := Tryz.isAgg2
  z2 := Tryz.sizeOf2
  v2 := Tryz.zeroValue2
  t3 := Tryz.underlying3
  a3 := Tryz.isAgg3
  z3 := Tryz.sizeOf3
  v3 := Tryz.zeroValue3
  t4 := Tryz.underlying4
  a4 := Tryz.isAgg4
  z4 := Tryz.sizeOf4
  v4 := Tryz.zeroValue4
  t5 := Tryz.underlying5
  a5 := Tryz.isAgg5
  z5 := Tryz.sizeOf5
  v5 := Tryz.zeroValue5
  t9 := Tryz.underlying9
  a9 := Tryz.isAgg9
  z9 := Tryz.sizeOf9
  v9 := Tryz.zeroValue9
  t20 := Tryz.underlying20
  a20 := Tryz.isAgg20
  z20 := Tryz.sizeOf20
  v20 := Tryz.zeroValue20
  t37 := Tryz.underlying105
  a37 := Tryz.isAgg105
  z37 := Tryz.sizeOf105
  v37 := Tryz.zeroValue105
  t46 := Tryz.underlying147
  a46 := Tryz.isAgg147
  z46 := Tryz.sizeOf147
  v46 := Tryz.zeroValue147
  t51 := Tryz.underlying61
  a51 := Tryz.isAgg61
  z51 := Tryz.sizeOf61
  v51 := Tryz.zeroValue61
  t53 := Tryz.underlying93
  a53 := Tryz.isAgg93
  z53 := Tryz.sizeOf93
  v53 := Tryz.zeroValue93
  t171 := Tryz.underlying193
  a171 := Tryz.isAgg193
  z171 := Tryz.sizeOf193
  v171 := Tryz.zeroValue193
  t173 := Tryz.underlying196
  a173 := Tryz.isAgg196
  z173 := Tryz.sizeOf196
  v173 := Tryz.zeroValue196
  t212 := Tryz.underlying211
  a212 := Tryz.isAgg211
  z212 := Tryz.sizeOf211
  v212 := Tryz.zeroValue211
  t213 := Tryz.underlying212
  a213 := Tryz.isAgg212
  z213 := Tryz.sizeOf212
  t232 := Tryz.underlying226
  a232 := Tryz.isAgg226
  z232 := Tryz.sizeOf226
  v232 := Tryz.zeroValue226
  t233 := Tryz.underlying227
  a233 := Tryz.isAgg227
  z233 := Tryz.sizeOf227
  v233 := Tryz.zeroValue227
  g17 := by kernel_rfl
  g18 := by kernel_rfl
  g19 := by kernel_rfl
  i0 := by kernel_rfl
  i2 := by kernel_rfl
  i3 := by kernel_rfl
  i4 := by kernel_rfl
  i5 := by kernel_rfl
  i9 := by kernel_rfl
  i20 := by kernel_rfl
  i37 := by kernel_rfl
  i46 := by kernel_rfl
  i51 := by kernel_rfl
  i53 := by kernel_rfl
  i171 := by kernel_rfl
  i173 := by kernel_rfl
  i212 := by kernel_rfl
  i232 := by kernel_rfl
  i233 := by kernel_rfl
  m17 := by kernel_rfl
  m18 := by kernel_rfl
  m19 := by kernel_rfl }
open Go.RowKit Go.Sort Go.Lib in
theorem Tryz.strconv_Itoa (n : Int) (h0 : -9223372036854775808 ≤ n) (h1 : n ≤ 9223372036854775807) (w : World) (htab : Lib.TabIs Tryz.prog w "internal/strconv.uint64pow10" .u64 Lib.pow10Tab) :
    Calls Tryz.prog 85 #[.int .i64 n] w fun e w' => e = .returned (.string ⟨(Lib.itoa n).toArray⟩) ∧ ∃ k os, w' = grow (w.drewN k) os := Any.strconv_Itoa Tryz.laysM171 n h0 h1 w htab
def Tryz.lays206_ren : Go.Shelf.Ren := ⟨fun | 206 => 166 | n => n, fun | 9 => 9 | 4 => 4 | 3 => 3 | n => n, fun | n => n⟩
def Tryz.lays99_ren : Go.Shelf.Ren := ⟨fun | 99 => 128 | 206 => 166 | n => n, fun | 9 => 9 | 4 => 4 | 3 => 3 | n => n, fun | n => n⟩
theorem Tryz.lays99 : Go.Proofs.Lays.n99 Tryz.prog Tryz.lays99_ren := {
  mixed := by kernel_rfl
  f99 := Tryz.func128.trans (congrArg some (by kernel_rfl))
  f206 := Tryz.func166.trans (congrArg some (by kernel_rfl))
  t3 := Tryz.underlying3
  a3 := Tryz.isAgg3
  z3 := Tryz.sizeOf3
  v3 := Tryz.zeroValue3
  t4 := Tryz.underlying4
  a4 := Tryz.isAgg4
  z4 := Tryz.sizeOf4
  v4 := Tryz.zeroValue4
  t9 := Tryz.underlying9
  a9 := Tryz.isAgg9
  z9 := Tryz.sizeOf9
  v9 := Tryz.zeroValue9 }
open Go.RowKit Go.Lib in
theorem Tryz.strings_HasPrefix (s p : ByteArray) (w : World) :
    Calls Tryz.prog 128 #[.string s, .string p] w fun e w' => e = .returned (.bool (Lib.hasPrefix s.data.toList p.data.toList)) ∧ w' = w := Any.strings_HasPrefix Tryz.lays99 s p w
def Tryz.lays105_ren : Go.Shelf.Ren := ⟨fun | 105 => 86 | 212 => 127 | 99 => 128 | 165 => 129 | 166 => 125 | 170 => 130 | 169 => 87 | 263 => 164 | 264 => 165 | 206 => 166 | 240 => 162 | 241 => 167 | 276 => 196 | 277 => 201 | n => n, fun | 9 => 9 | 3 => 3 | 4 => 4 | 20 => 20 | 0 => 0 | 46 => 147 | 109 => 148 | 5 => 5 | 72 => 107 | 76 => 145 | 51 => 61 | 146 => 173 | 53 => 93 | 148 => 175 | 70 => 104 | 37 => 105 | 75 => 144 | 127 => 153 | 164 => 191 | 80 => 111 | n => n, fun | n => n⟩
theorem Tryz.lays105 : Go.Proofs.Lays.n105 Tryz.prog Tryz.lays105_ren := {
  mixed := by kernel_rfl
  f99 := Tryz.func128.trans (congrArg some (by kernel_rfl))
  f105 := Tryz.func86.trans (congrArg some (by kernel_rfl))
  f165 := Tryz.func129.trans (congrArg some (by kernel_rfl))
  f166 := Tryz.func125.trans (congrArg some (by kernel_rfl))
  f169 := Tryz.func87.trans (congrArg some (by kernel_rfl))
  f170 := Tryz.func130.trans (congrArg some (by kernel_rfl))
  f206 := Tryz.func166.trans (congrArg some (by kernel_rfl))
  f212 := Tryz.func127.trans (congrArg some (by kernel_rfl))
  f240 := Tryz.func162.trans (congrArg some (by kernel_rfl))
  f241 := Tryz.func167.trans (congrArg some (by kernel_rfl))
  f263 := Tryz.func164.trans (congrArg some (by kernel_rfl))
  f264 := Tryz.func165.trans (congrArg some (by kernel_rfl))
  f276 := Tryz.func196.trans (congrArg some (by kernel_rfl))
  f277 := Tryz.func201.trans (congrArg some (by kernel_rfl))
  t0 := Tryz.underlying0
  a0 := Tryz.isAgg0
  z0 := Tryz.sizeOf0
  v0 := Tryz.zeroValue0
  t3 := Tryz.underlying3
  a3 := Tryz.isAgg3
  z3 := Tryz.sizeOf3
  v3 := Tryz.zeroValue3
  t4 := Tryz.underlying4
  a4 := Tryz.isAgg4
  z4 := Tryz.sizeOf4
  v4 := Tryz.zeroValue4
  t5 := Tryz.underlying5
  a5 := Tryz.isAgg5
  z5 := Tryz.sizeOf5
  v5 := Tryz.zeroValue5
  t9 := Tryz.underlying9
  a9 := Tryz.isAgg9
  z9 := Tryz.sizeOf9
  v9 := Tryz.zeroValue9
  t20 := Tryz.underlying20
  a20 := Tryz.isAgg20
  z20 := Tryz.sizeOf20
  v20 := Tryz.zeroValue20
  t37 := Tryz.underlying105
  a37 := Tryz.isAgg105
  z37 := Tryz.sizeOf105
  v37 := Tryz.zeroValue105
  t46 := Tryz.underlying147
  a46 := Tryz.isAgg147
  z46 := Tryz.sizeOf147
  v46 := Tryz.zeroValue147
  t51 := Tryz.underlying61
  a51 := Tryz.isAgg61
  z51 := Tryz.sizeOf61
  v51 := Tryz.zeroValue61
  t53 := Tryz.underlying93
  a53 := Tryz.isAgg93
  z53 := Tryz.sizeOf93
  v53 := Tryz.zeroValue93
  t70 := Tryz.underlying104
  a70 := Tryz.isAgg104
  z70 := Tryz.sizeOf104
  v70 := Tryz.zeroValue104
  t72 := Tryz.underlying107
  a72 := Tryz.isAgg107
  z72 := Tryz.sizeOf107
  v72 := Tryz.zeroValue107
  t75 := Tryz.underlying144
  a75 := Tryz.isAgg144
  z75 := Tryz.sizeOf144
  v75 := Tryz.zeroValue144
  t76 := Tryz.underlying145
  a76 := Tryz.isAgg145
  z76 := Tryz.sizeOf145
  v76 := Tryz.zeroValue145
  t109 := Tryz.underlying148
  a109 := Tryz.isAgg148
  z109 := Tryz.sizeOf148
  v109 := Tryz.zeroValue148
  t127 := Tryz.underlying153
  a127 := Tryz.isAgg153
  z127 := Tryz.sizeOf153
  v127 := Tryz.zeroValue153
  t146 := Tryz.underlying173
  a146 := Tryz.isAgg173
  z146 := Tryz.sizeOf173
  v146 := Tryz.zeroValue173
  t148 := Tryz.underlying175
  a148 := Tryz.isAgg175
  z148 := Tryz.sizeOf175
  v148 := Tryz.zeroValue175
  t164 := Tryz.underlying191
  a164 := Tryz.isAgg191
  z164 := Tryz.sizeOf191
  v164 := Tryz.zeroValue191 }
theorem Tryz.Builder_Extra_105 : Builder.Extra Tryz.prog Tryz.lays105_ren := {
  sizeBuilder := by kernel_rfl
  liesBuilder := by kernel_rfl
  t5 := Tryz.underlying5
  a5 := Tryz.isAgg5
  z5 := Tryz.sizeOf5
  v5 := Tryz.zeroValue5
  infoByte := by kernel_rfl
  cellsByte := by kernel_rfl
  sizeByte := by kernel_rfl
  neB5 := by decide }
open Go.RowKit Go.Lib in
theorem Tryz.strings_Repeat (s : ByteArray) (c : Nat) (w : World) (hc : c ≤ 9223372036854775807) (hlen : s.size * c ≤ 140737488355328) :
    Calls Tryz.prog 86 #[.string s, .int .i64 c] w fun e w' => e = .returned (.string ⟨(Lib.repeatL s.data.toList c).toArray⟩) ∧ Below w.heap.size w w' := Any.strings_Repeat Tryz.lays105 Tryz.Builder_Extra_105 s c w hc hlen
end Go.Proofs
namespace Go.Proofs.YtfndnjmnakdglaaGreatDoor
open Go Go.Vm Go.Shelf
set_option linter.unusedVariables false
set_option linter.unusedSectionVars false
def Sound1 [Lay] (g : Vm.Id) (b : List AV → St → R) : Prop := ∀ (args : List AV) (s : St) (r : AV) (s' : St), b args s = .ok r s' → (∃ fn, Tryz.prog.funcs[g.val]? = some fn ∧ fn.body.isNone = false ∧ fn.name ≠ "runtime.NumGoroutine") ∧
  ∀ (E : Env) (w : World) (vals : List Value), Rel s E w → RL E w args vals → Calls Tryz.prog g.val vals.toArray w fun e w' => ∃ E' v, e = .returned v ∧ RV E' w' r v ∧ Went s E w s' E' w'
theorem base_rep [Lay] : SoundCall Tryz.prog fun g a s => g.get (Tab.rep noB : Base) a s := by
  intro g args s r s' h
  simp only [Id.get_rep] at h
  exact R.noConfusion h
theorem base_set [Lay] {g0 : Vm.Id} {b0 : List AV → St → R} {B : Base} (h0 : Sound1 g0 b0) (hB : SoundCall Tryz.prog fun g a s => g.get B a s) : SoundCall Tryz.prog fun g a s => g.get (g0.set b0 B) a s := by
  intro g args s r s' h
  by_cases hg : g = g0
  · subst hg
    simp only [Id.get_set, if_true] at h
    exact h0 args s r s' h
  · simp only [Id.get_set, if_neg hg] at h
    exact hB g args s r s' h
noncomputable def tab10 : List (Nat × (Option Obj → Prop)) := [(1, fun o => ∃ e fr, o = some (.cells (Lib.pow10Tab.map fun z => Value.int .u64 z).toArray e fr))]
noncomputable abbrev L0 : Lay := ⟨tab10, []⟩
theorem global10 : Tryz.prog.globalNamed "internal/strconv.uint64pow10" = some 1 := by kernel_rfl
theorem tab_is {E : Env} {w : World} (h : ∀ k p, (k, p) ∈ tab10 → E.I k ∧ p w.heap[k]?) : Lib.TabIs Tryz.prog w "internal/strconv.uint64pow10" .u64 Lib.pow10Tab := by
  obtain ⟨_, e, fr, h1⟩ := h 1 _ (List.mem_singleton.2 rfl)
  unfold Lib.TabIs World.var?
  rw [global10]
  show (match w.heap[1]? with | some (.cells cs _ _) => some cs | _ => none) = _
  rw [h1]
theorem below_grow (w : World) (k : Nat) (os : Array Obj) : RowKit.Below w.heap.size w (Sort.grow (w.drewN k) os) := by
  refine ⟨?_, ?_, ?_, ?_, fun j hj => ?_⟩
  · simp [Sort.grow, World.drewN]
  · simp [Sort.grow, World.drewN]
  · simp [Sort.grow, World.drewN]
  · simp [Sort.grow, World.drewN]
  · simp [Sort.grow, World.drewN, Array.getElem?_append_left hj]
section
variable [Lay]
theorem itoa_sound (htab : ∀ {E : Env} {w : World}, Laid E w → Lib.TabIs Tryz.prog w "internal/strconv.uint64pow10" .u64 Lib.pow10Tab) : Sound1 F.strconv_Itoa Itoa_B := by
  intro args s r s' h
  have ev : F.strconv_Itoa.val = 85 := by kernel_rfl
  unfold Itoa_B at h
  split at h <;> first | (exact R.noConfusion h) | skip
  rename_i n
  split at h <;> first | (exact R.noConfusion h) | skip
  rename_i hn
  obtain ⟨rfl, rfl⟩ := ok_inj h
  refine ⟨⟨Tryz.f85, by rw [ev]; exact Tryz.func85, by kernel_rfl, by decide⟩, fun E w vals rel hrl => ?_⟩
  obtain ⟨u1, vs1, rfl, k1, hrl⟩ := hrl.cons_inv
  have e3 : vs1 = [] := List.eq_nil_of_length_eq_zero hrl.len
  subst e3
  have e4 := rv_int k1
  subst e4
  rw [ev]
  refine Calls.mono (Tryz.strconv_Itoa n hn.1 hn.2 w (htab rel.laid)) ?_
  rintro e w' ⟨rfl, k, os, rfl⟩
  exact ⟨E, _, rfl, .str _ _ (by simp), went_below rel (below_grow w k os)⟩
theorem repeat_sound : Sound1 F.strings_Repeat Repeat_B := by
  intro args s r s' h
  have ev : F.strings_Repeat.val = 86 := by kernel_rfl
  unfold Repeat_B at h
  split at h <;> first | (exact R.noConfusion h) | skip
  rename_i l c
  split at h <;> first | (exact R.noConfusion h) | skip
  rename_i hc
  obtain ⟨rfl, rfl⟩ := ok_inj h
  refine ⟨⟨Tryz.f86, by rw [ev]; exact Tryz.func86, by kernel_rfl, by decide⟩, fun E w vals rel hrl => ?_⟩
  obtain ⟨u1, vs1, rfl, k1, hrl⟩ := hrl.cons_inv
  obtain ⟨u2, vs2, rfl, k2, hrl⟩ := hrl.cons_inv
  have e3 : vs2 = [] := List.eq_nil_of_length_eq_zero hrl.len
  subst e3
  obtain ⟨x, rfl, hx⟩ := rv_str k1
  have e4 := rv_int k2
  subst e4
  obtain ⟨m, rfl⟩ : ∃ m : Nat, c = m := ⟨c.toNat, by omega⟩
  rw [ev]
  have hs : x.size ≤ 1000 := by rw [Lib.size_eq, hx]; exact hc.2.2
  have hm : m ≤ 1000 := by omega
  refine Calls.mono (Tryz.strings_Repeat x m w (by omega) (by have := Nat.mul_le_mul hs hm; omega)) ?_
  rintro e w' ⟨rfl, hb⟩
  exact ⟨E, _, rfl, .str _ _ (by simp [hx]), went_below rel hb⟩
theorem index_sound : Sound1 F.strings_IndexByte strings_IndexByte_B := by
  intro args s r s' h
  have ev : F.strings_IndexByte.val = 233 := by kernel_rfl
  unfold strings_IndexByte_B at h
  split at h <;> first | (exact R.noConfusion h) | skip
  obtain ⟨rfl, rfl⟩ := ok_inj h
  refine ⟨⟨Tryz.f233, by rw [ev]; exact Tryz.func233, by kernel_rfl, by decide⟩, fun E w vals rel hrl => ?_⟩
  obtain ⟨u1, vs1, rfl, k1, hrl⟩ := hrl.cons_inv
  obtain ⟨u2, vs2, rfl, k2, hrl⟩ := hrl.cons_inv
  have e3 : vs2 = [] := List.eq_nil_of_length_eq_zero hrl.len
  subst e3
  obtain ⟨x, rfl, hx⟩ := rv_str k1
  have e4 := rv_int k2
  subst e4
  rw [ev]
  refine Calls.mono (Tryz.strings_IndexByte x _ w) ?_
  rintro e w' ⟨rfl, rfl⟩
  rw [hx]
  exact ⟨E, _, rfl, .int _ _, went_below rel (RowKit.Below.refl _ _)⟩
theorem compare_sound : Sound1 F.strings_Compare Compare_B := by
  intro args s r s' h
  have ev : F.strings_Compare.val = 141 := by kernel_rfl
  unfold Compare_B at h
  split at h <;> first | (exact R.noConfusion h) | skip
  obtain ⟨rfl, rfl⟩ := ok_inj h
  refine ⟨⟨Tryz.f141, by rw [ev]; exact Tryz.func141, by kernel_rfl, by decide⟩, fun E w vals rel hrl => ?_⟩
  obtain ⟨u1, vs1, rfl, k1, hrl⟩ := hrl.cons_inv
  obtain ⟨u2, vs2, rfl, k2, hrl⟩ := hrl.cons_inv
  have e3 : vs2 = [] := List.eq_nil_of_length_eq_zero hrl.len
  subst e3
  obtain ⟨x, rfl, hx⟩ := rv_str k1
  obtain ⟨y, rfl, hy⟩ := rv_str k2
  rw [ev]
  refine Calls.mono (Tryz.strings_Compare x y w) ?_
  rintro e w' ⟨rfl, rfl⟩
  rw [hx, hy]
  exact ⟨E, _, rfl, .int _ _, went_below rel (RowKit.Below.refl _ _)⟩
theorem hasp_sound : Sound1 F.strings_HasPrefix HasPrefix_B := by
  intro args s r s' h
  have ev : F.strings_HasPrefix.val = 128 := by kernel_rfl
  unfold HasPrefix_B at h
  split at h <;> first | (exact R.noConfusion h) | skip
  obtain ⟨rfl, rfl⟩ := ok_inj h
  refine ⟨⟨Tryz.f128, by rw [ev]; exact Tryz.func128, by kernel_rfl, by decide⟩, fun E w vals rel hrl => ?_⟩
  obtain ⟨u1, vs1, rfl, k1, hrl⟩ := hrl.cons_inv
  obtain ⟨u2, vs2, rfl, k2, hrl⟩ := hrl.cons_inv
  have e3 : vs2 = [] := List.eq_nil_of_length_eq_zero hrl.len
  subst e3
  obtain ⟨x, rfl, hx⟩ := rv_str k1
  obtain ⟨y, rfl, hy⟩ := rv_str k2
  rw [ev]
  refine Calls.mono (Tryz.strings_HasPrefix x y w) ?_
  rintro e w' ⟨rfl, rfl⟩
  rw [hx, hy]
  exact ⟨E, _, rfl, .bool _, went_below rel (RowKit.Below.refl _ _)⟩
end
theorem follows : Tryz.prog.follows .mixedOrders = true := by kernel_rfl
theorem tab_of [L : Lay] (hL : L.tabs = tab10) {E : Env} {w : World} (h : Laid E w) : Lib.TabIs Tryz.prog w "internal/strconv.uint64pow10" .u64 Lib.pow10Tab := tab_is (E := E) fun k p hm => h.tabs k p (by show (k, p) ∈ L.tabs; rw [hL]; exact hm)
theorem ca_sound [L : Lay] [Tel] (hL : L.tabs = tab10) (hn : Sound1 F.digits_Nat Tel.nat) (hs : Sound1 F.whole_Small Tel.small) (h13 : Sound1 F.law13_known Tel.k13) (h14 : Sound1 F.law14_known Tel.k14) : SoundCall Tryz.prog CA :=
  cc_sound (Vm.drawn_ok follows) (base_set index_sound (base_set hs (base_set compare_sound (base_set hasp_sound (base_set repeat_sound (base_set (itoa_sound (tab_of hL)) (base_set hn (base_set h14 (base_set h13 base_rep)))))))))
theorem no_sound1 [Lay] (g : Vm.Id) : Sound1 g noB := fun args s r s' h => R.noConfusion h
noncomputable abbrev T0 : Tel := ⟨noB, noB, noB, noB⟩
end Go.Proofs.YtfndnjmnakdglaaGreatDoor
namespace Go.Proofs.YtfndnjmnakdglaaGreatDoor
open Go Go.Shelf Go.RowKit
set_option linter.unusedVariables false
theorem lays166 : Lays.n166 Tryz.prog Tryz.lays105_ren := { Tryz.lays105 with }
theorem lays169 : Lays.n169 Tryz.prog Tryz.lays105_ren := { Tryz.lays105 with }
def joined : List ByteArray → List UInt8
  | [] => []
  | x :: r => x.data.toList ++ joined r
theorem write_k (B b : Nat) (l : List UInt8) (s : ByteArray) (w : World) (h : Lib.IsBuilderF 107 5 B b (Lib.byteCells l) w) (hlen : l.length + s.size ≤ 140737488355328) (hBw : B ≤ w.heap.size) :
    Calls Tryz.prog 125 #[.pointer (some ⟨b, 0, none⟩), .string s] w fun e w' => e = .returned (.tuple #[.int .i64 s.size, .nilIface]) ∧ Lib.IsBuilderF 107 5 B b (Lib.byteCells (l ++ s.data.toList)) w' ∧ Below B w w' ∧ Lib.OthersKept 5 (some b) w w' := by
  refine (Any.Builder_WriteString_k lays166 Tryz.Builder_Extra_105 B b (Lib.byteCells l) s w h (by rw [Lib.byteCells_length]; exact hlen) hBw).mono ?_
  rintro e w' ⟨rfl, h1, h2, h3⟩
  refine ⟨rfl, ?_, h2, h3⟩
  rw [Lib.strCells_eq, ← Lib.byteCells_append] at h1
  exact Or.inr h1
theorem joined_take {texts : List ByteArray} {k : Nat} (h : k < texts.length) : joined (texts.take (k + 1)) = joined (texts.take k) ++ texts[k].data.toList := by
  induction texts generalizing k with
  | nil => simp at h
  | cons x r ih =>
    cases k with
    | zero => simp [joined]
    | succ k =>
      simp only [List.length_cons] at h
      rw [List.take_succ_cons, List.take_succ_cons, joined, joined, ih (by omega), List.append_assoc]
      rfl
theorem joined_le (texts : List ByteArray) (k : Nat) : (joined (texts.take k)).length ≤ (joined texts).length := by
  induction texts generalizing k with
  | nil => simp [joined]
  | cons x r ih =>
    cases k with
    | zero => simp [joined]
    | succ k => rw [List.take_succ_cons, joined, joined]; simp; exact ih k
set_option maxHeartbeats 1000000 in
theorem put_k (B b t : Nat) (texts : List ByteArray) (l : List UInt8) (w : World) (fr : Nat × Nat) (hb : Lib.IsBuilderF 107 5 B b (Lib.byteCells l) w) (hB : B ≤ w.heap.size) (ht : w.heap[t]? = some (.cells (texts.map Value.string).toArray 9 fr)) (htb : t ≠ b) (hn : texts.length ≤ 1000)
    (hlen : l.length + (joined texts).length ≤ 1000000) :
    Calls Tryz.prog 84 #[.pointer (some ⟨b, 0, none⟩), .slice (some ⟨t, 0, none⟩) texts.length texts.length] w fun e w' => e = .returned (.tuple #[]) ∧ Lib.IsBuilderF 107 5 B b (Lib.byteCells (l ++ joined texts)) w' ∧ Below B w w' := by
  go_enter Tryz.func84, Tryz.ntmps84
  go_wp2
  go_loopw [8] (fun i wr => ∃ k : Nat, k ≤ texts.length ∧ i = .int .i64 k ∧ Lib.IsBuilderF 107 5 B b (Lib.byteCells (l ++ joined (texts.take k))) wr ∧ Below B w wr ∧ wr.heap[t]? = some (.cells (texts.map Value.string).toArray 9 fr))
    (fun i _ => texts.length - (intOf i).toNat)
  case atStart => exact ⟨0, Nat.zero_le _, rfl, by simpa [joined] using hb, Below.refl _ _, ht⟩
  case round =>
    obtain ⟨k, hk, rfl, hbr, hbel, htr⟩ := hrel
    have hc : ∀ h : k < texts.length, wr.cell? ⟨t, k, none⟩ = some (.string texts[k]) := fun h => by simp [World.cell?, htr, h]
    by_cases hlt : k < texts.length
    · have hc' := hc hlt
      have hj := joined_take hlt
      have hsz : (l ++ joined (texts.take k)).length + texts[k].size ≤ 140737488355328 := by
        have := joined_le texts (k + 1)
        rw [hj] at this
        rw [Lib.size_eq]
        simp only [List.length_append] at this ⊢
        omega
      have hbs := hbel.size
      obtain ⟨x, hx⟩ : ∃ x, x = texts[k] := ⟨_, rfl⟩
      rw [← hx] at hc' hj hsz
      clear hx hc
      go_wp2_with (go_at_call 125; refine (write_k B b _ x _ hbr hsz (by omega)).mono ?_)
      rintro e W1 ⟨rfl, h1, h2, h3⟩
      go_wp2
      go_roundw
      case rel =>
        refine ⟨k + 1, by omega, by go_num, ?_, hbel.trans h2, h3 t _ htr (fun e => htb (Option.some.inj e)) (fun c fz h => by cases h)⟩
        rw [hj, ← List.append_assoc]
        exact h1
      case measure => simp [intOf]; omega
    · have : k = texts.length := by omega
      subst this
      go_wp2
      go_end0
      rw [List.take_length] at hbr
      exact ⟨rfl, hbr, hbel⟩
end Go.Proofs.YtfndnjmnakdglaaGreatDoor
namespace Go.Proofs.YtfndnjmnakdglaaGreatDoor
open Go Go.Shelf Go.RowKit Go.Lib
set_option linter.unusedVariables false
theorem tab_below {w w' : World} (h : TabIs Tryz.prog w "internal/strconv.uint64pow10" .u64 pow10Tab) (hb : Below w.heap.size w w') : TabIs Tryz.prog w' "internal/strconv.uint64pow10" .u64 pow10Tab := by
  unfold TabIs World.var? at h ⊢
  rw [global10] at h ⊢
  have h2 : 1 < w.heap.size := by
    apply Decidable.byContradiction
    intro hn
    have : w.heap[1]? = none := Array.getElem?_eq_none (by omega)
    simp [this] at h
  show (match w'.heap[1]? with | some (.cells cs _ _) => some cs | _ => none) = _
  rw [hb.block 1 h2]
  exact h
theorem itoa_call (n : Nat) (hn : n < 1000000000) (w : World) (htab : TabIs Tryz.prog w "internal/strconv.uint64pow10" .u64 pow10Tab) : Calls Tryz.prog 85 #[.int .i64 n] w fun e w' => e = .returned (.string ⟨(decDigits n).toArray⟩) ∧ Below w.heap.size w w' := by
  refine (Any.strconv_Itoa Tryz.laysM171 n (by omega) (by omega) w htab).mono ?_
  rintro e w' ⟨rfl, k, os, rfl⟩
  have e : itoa (n : Int) = decDigits n := by unfold itoa; rw [if_neg (by omega)]; simp
  rw [e]
  exact ⟨rfl, below_grow w k os⟩
theorem repeat_any (s : ByteArray) (c : Nat) (w : World) (hc : c ≤ 9223372036854775807) (hlen : s.size * c ≤ 140737488355328) :
    Calls Tryz.prog 86 #[.string s, .int .i64 c] w fun e w' => e = .returned (.string ⟨(Lib.repeatL s.data.toList c).toArray⟩) ∧ Below w.heap.size w w' := Any.strings_Repeat Tryz.lays105 Tryz.Builder_Extra_105 s c w hc hlen
theorem repeat_call (n : Int) (h0 : 0 ≤ n) (hn : n ≤ 9) (w : World) : Calls Tryz.prog 86 #[.string ⟨#[48]⟩, .int .i64 n] w fun e w' => e = .returned (.string ⟨(repeatL [48] n.toNat).toArray⟩) ∧ Below w.heap.size w w' := by
  obtain ⟨k, rfl⟩ : ∃ k : Nat, n = k := ⟨n.toNat, by omega⟩
  have hs : (⟨#[48]⟩ : ByteArray).size = 1 := rfl
  have h1 := repeat_any ⟨#[48]⟩ k w (by omega) (by rw [hs]; omega)
  rw [Int.toNat_natCast]
  exact h1
theorem fresh_b (w : World) : IsBuilderF 107 5 w.heap.size w.heap.size (Lib.byteCells []) (w.alloc (.cells #[.pointer none, .slice none 0 0] 107)) := IsBuilderF.of (fresh_isBuilder 107 5 w)
theorem string_k (B b : Nat) (l : List UInt8) (w : World) (h : IsBuilderF 107 5 B b (Lib.byteCells l) w) (h0 : l ≠ []) : Calls Tryz.prog 87 #[.pointer (some ⟨b, 0, none⟩)] w fun e w' => e = .returned (.string ⟨l.toArray⟩) ∧ Below B w w' :=
  (Any.Builder_String_k lays169 Tryz.Builder_Extra_105 B b l w h h0).mono fun e w' h => ⟨h.1, h.2.2.1⟩
theorem isb_below {B b : Nat} {bs : List Value} {W W' : World} (h : IsBuilderF 107 5 B b bs W) (hb : Below W.heap.size W W') : IsBuilderF 107 5 B b bs W' := by
  have key : ∀ p, BuilderAtF 107 5 B b p bs W → BuilderAtF 107 5 B b p bs W' := by
    rintro p ⟨h1, v, h2, h3, h4⟩
    refine ⟨h1, v, by rw [hb.block b (Array.getElem?_eq_some_iff.1 h2).1]; exact h2, ⟨h3.1, ?_⟩, h4⟩
    rcases h3.2 with h5 | ⟨g, cap, cur, fz, e1, e2, e3, r⟩
    · exact .inl h5
    · exact .inr ⟨g, cap, cur, fz, e1, e2, by rw [hb.block g (Array.getElem?_eq_some_iff.1 e3).1]; exact e3, r⟩
  exact h.imp (key _) (key _)
theorem below_up {B C : Nat} {a b c : World} (h : Below B a b) (k : Below C b c) (hBC : B ≤ C) : Below B a c :=
  ⟨k.os.trans h.os, k.tape.trans h.tape, k.output.trans h.output, Nat.le_trans h.size k.size, fun i hi => (k.block i (by omega)).trans (h.block i hi)⟩
theorem dec_small_len {a : Nat} (h : a < 1000000000) : (decDigits a).length ≤ 9 := dec_len_le (by omega) (by omega)
theorem natIs_drop {l : List Nat} {k : Nat} (h : natIs l = true) : natIs (l.drop k) = true := by
  induction l generalizing k with
  | nil => simpa using h
  | cons a l ih =>
    cases k with
    | zero => simpa using h
    | succ k =>
      rw [natIs_cons] at h
      simp only [Bool.and_eq_true] at h
      exact ih h.2.1
set_option maxHeartbeats 1000000 in
set_option maxRecDepth 100000 in
theorem nat_walk (w : World) (htab : TabIs Tryz.prog w "internal/strconv.uint64pow10" .u64 pow10Tab) (g off cap : Nat) (l : List Nat) (hg : g < w.heap.size) (hl : l.length ≤ 1000) (h0 : l ≠ []) (hnat : natIs l = true)
    (hc : ∀ i (h : i < l.length), w.cell? ⟨g, off + i, none⟩ = some (.int .u32 (l[i] : Int)))
    (hIs : Calls Tryz.prog 83 #[.slice (some ⟨g, off, none⟩) l.length cap] w fun e w' => e = .returned (.bool (natIs l)) ∧ Below w.heap.size w w') :
    Calls Tryz.prog 51 #[.slice (some ⟨g, off, none⟩) l.length cap] w fun e w' => e = .returned (.string ⟨(decDigits (val l)).toArray⟩) ∧ Below w.heap.size w w' := by
  have hsm := natIs_small hnat
  obtain ⟨m, hm⟩ : ∃ m, l.length = m + 1 := ⟨l.length - 1, by cases l <;> simp_all⟩
  rw [hnat] at hIs
  rw [hm] at hIs hl ⊢
  have hl1 : (((m + 1 : Nat) : Int) == 0) = false := by simp; omega
  have hidx : (((m + 1 : Nat) : Int) - 1) = (m : Int) := by omega
  go_enter Tryz.func51, Tryz.ntmps51
  go_wp2_with (go_at_call 83; refine hIs.mono ?_)
  rintro e W1 ⟨rfl, b1⟩
  have b2 : Below W1.heap.size W1 (W1.alloc (.cells #[.pointer none, .slice none 0 0] 107)) := (Below.refl _ W1).alloc (Nat.le_refl _) _
  have hg1 := b1.size
  have hlm : l[m] < 1000000000 := hsm _ (List.getElem_mem _)
  have hcm : (W1.alloc (.cells #[.pointer none, .slice none 0 0] 107)).cell? ⟨g, off + m, none⟩ = some (.int .u32 (l[m] : Int)) := by
    rw [b2.cell (by show g < _; omega), b1.cell (by exact hg)]; exact hc m (by omega)
  have hzl : l.drop m = [l[m]] := by rw [List.drop_eq_getElem_cons (by omega), List.drop_of_length_le (by omega)]
  generalize l[m] = z at hcm hlm hzl
  have hw : wrap64 (z : Int) = (z : Int) := by unfold wrap64; omega
  have htab2 : TabIs Tryz.prog (W1.alloc (.cells #[.pointer none, .slice none 0 0] 107)) "internal/strconv.uint64pow10" .u64 pow10Tab := tab_below (tab_below htab b1) b2
  have hb0 := fresh_b W1
  go_wp2_with (go_at_call 85; refine (itoa_call z hlm _ htab2).mono ?_)
  rintro e W2 ⟨rfl, b3⟩
  have hb1 := (isb_below hb0 b3).alloc (.cells #[.string ⟨(decDigits z).toArray⟩] 9)
  have hs3 := b3.size
  have hs3' : W1.heap.size + 1 ≤ W2.heap.size := by simpa using hs3
  have b4 : Below W2.heap.size W2 (W2.alloc (.cells #[.string ⟨(decDigits z).toArray⟩] 9)) := (Below.refl _ _).alloc (Nat.le_refl _) _
  go_wp2_with (go_at_call 84; refine (put_k W1.heap.size W1.heap.size W2.heap.size [⟨(decDigits z).toArray⟩] [] _ (0, 0) hb1 (by have := b4.size; omega) (by simp [World.alloc, -World.alloc_eq]) (by omega) (by simp) (by have := dec_small_len hlm; simp [joined]; omega)).mono ?_)
  rintro e W3 ⟨rfl, hb2, b5⟩
  have b6 : Below W1.heap.size W1 W3 := (below_up (below_up b2 b3 (by simp)) b4 (by omega)).trans b5
  simp only [joined, List.append_nil, List.nil_append] at hb2
  go_wp2
  go_loopw [4] (fun i wr => ∃ (k : Nat) (x : Int), k ≤ m ∧ x = (k : Int) - 1 ∧ i = .int .i64 x ∧ IsBuilderF 107 5 W1.heap.size W1.heap.size (Lib.byteCells (decDigits (val (l.drop k)))) wr ∧ Below W1.heap.size W1 wr)
    (fun i _ => (RowKit.intOf i + 1).toNat)
  case atStart =>
    refine ⟨m, _, Nat.le_refl _, ?_, rfl, ?_, b6⟩
    · omega
    rw [hzl]
    simpa [val] using hb2
  case round =>
    clear hw hcm hlm hzl
    obtain ⟨k, x, hk, hx, rfl, hbr, hbel⟩ := hrel
    by_cases hk0 : k = 0
    · subst hk0
      obtain rfl : x = ((0 : Nat) : Int) - 1 := by omega
      clear hx
      have hne : decDigits (val l) ≠ [] := by have := dec_len_pos (val l); intro h; rw [h] at this; simp at this
      rw [List.drop_zero] at hbr
      go_wp2_with (go_at_call 87; refine (string_k _ _ _ _ hbr hne).mono ?_)
      rintro e W4 ⟨rfl, b7⟩
      go_wp2
      go_ret
      exact ⟨rfl, below_up (below_up b1 hbel hg1) b7 hg1⟩
    · obtain ⟨j, rfl⟩ : ∃ j, k = j + 1 := ⟨k - 1, by omega⟩
      have hj : j < l.length := by omega
      obtain rfl : x = (j : Int) := by omega
      clear hx
      have hcj : wr.cell? ⟨g, off + j, none⟩ = some (.int .u32 (l[j] : Int)) := by
        rw [hbel.cell (by show g < _; omega), b1.cell (by exact hg)]; exact hc j hj
      have hlj : l[j] < 1000000000 := hsm _ (List.getElem_mem _)
      have hstep0 := fun h => dec_step hj hlj h
      generalize l[j] = y at hcj hlj hstep0
      have hwj : wrap64 (y : Int) = (y : Int) := by unfold wrap64; omega
      have hdl := dec_small_len hlj
      obtain ⟨d, hd⟩ : ∃ d, decDigits y = d := ⟨_, rfl⟩
      have htr : TabIs Tryz.prog wr "internal/strconv.uint64pow10" .u64 pow10Tab := tab_below (tab_below htab b1) (below_up (Below.refl _ _) hbel (Nat.le_refl _))
      have cI := itoa_call y hlj wr htr
      rw [hd] at cI hdl hstep0
      clear hd
      go_wp2_with (go_at_call 85; refine cI.mono ?_)
      rintro e W4 ⟨rfl, b7⟩
      have hnn : (9 - ((d).length : Int)).toNat = 9 - (d).length := by omega
      have h9a : (0 : Int) ≤ 9 - ((d).length : Int) := by omega
      have h9b : (9 : Int) - ((d).length : Int) ≤ 9 := by omega
      go_wp2_with (go_at_call 86; refine (repeat_call _ h9a h9b _).mono ?_)
      rintro e W5 ⟨rfl, b8⟩
      rw [hnn]
      have hb4 := (isb_below (isb_below hbr b7) b8).alloc (.cells #[.string ⟨(repeatL [48] (9 - (d).length)).toArray⟩, .string ⟨(d).toArray⟩] 9)
      have hs7 := b7.size
      have hs8 := b8.size
      have hsr := hbel.size
      have b9 : Below W5.heap.size W5 (W5.alloc (.cells #[.string ⟨(repeatL [48] (9 - (d).length)).toArray⟩, .string ⟨(d).toArray⟩] 9)) := (Below.refl _ _).alloc (Nat.le_refl _) _
      have hlw : W1.heap.size < wr.heap.size := by
        rcases hbr with h | h
        · exact h.lt
        · exact h.lt
      have hvl : 0 < val (l.drop (j + 1)) := by
        rcases Nat.eq_zero_or_pos (val (l.drop (j + 1))) with h | h
        · have hn2 : natIs (l.drop (j + 1)) = true := natIs_drop hnat
          have := (val_zero hn2).1 h
          have h3 := congrArg List.length this
          simp at h3; omega
        · exact h
      have hstep := hstep0 hvl
      have hrep : (repeatL [48] (9 - (d).length)).length = 9 - (d).length := by rw [repeatL_length]; simp
      have hdv : (decDigits (val (l.drop (j + 1)))).length ≤ 9 * (l.length - (j + 1)) := by
        have h := dec_len_val (l := l.drop (j + 1)) (fun a ha => hsm a (List.mem_of_mem_drop ha)) (fun h => by have := congrArg List.length h; simp at this; omega)
        rwa [List.length_drop] at h
      go_wp2_with (go_at_call 84; refine (put_k W1.heap.size W1.heap.size W5.heap.size [⟨(repeatL [48] (9 - (d).length)).toArray⟩, ⟨(d).toArray⟩] _ _ (0, 0) hb4 (by have := b9.size; omega) (by simp [World.alloc, -World.alloc_eq]) (by omega) (by simp) (by simp [joined, hrep]; omega)).mono ?_)
      rintro e W6 ⟨rfl, hb5, b10⟩
      have b11 : Below W1.heap.size W1 W6 := ((below_up (below_up hbel b7 (by omega)) b8 (by omega)).trans (below_up (Below.refl _ _) b9 (by omega))).trans b10
      simp only [joined, List.append_nil] at hb5
      rw [← hstep] at hb5
      clear hstep hdv hrep hvl hb4 hbr hb0 hb1 hb2
      go_wp2
      go_roundw
      case rel => exact ⟨j, _, by omega, by omega, rfl, hb5, b11⟩
      case measure => simp [RowKit.intOf]
set_option maxRecDepth 100000 in
theorem nat_walk0 (w : World) (a : Option Addr) (n cap : Nat)
    (hIs : Calls Tryz.prog 83 #[.slice a n cap] w fun e w' => e = .returned (.bool false) ∧ Below w.heap.size w w') :
    Calls Tryz.prog 51 #[.slice a n cap] w fun e w' => e = .returned (.string ⟨#[48]⟩) ∧ Below w.heap.size w w' := by
  go_enter Tryz.func51, Tryz.ntmps51
  go_wp2_with (go_at_call 83; refine hIs.mono ?_)
  rintro e W1 ⟨rfl, b1⟩
  go_wp2
  go_ret
  exact ⟨rfl, b1⟩
set_option maxRecDepth 100000 in
theorem nat_walk00 (w : World) (a : Option Addr) (cap : Nat)
    (hIs : Calls Tryz.prog 83 #[.slice a 0 cap] w fun e w' => e = .returned (.bool true) ∧ Below w.heap.size w w') :
    Calls Tryz.prog 51 #[.slice a 0 cap] w fun e w' => e = .returned (.string ⟨#[48]⟩) ∧ Below w.heap.size w w' := by
  have hl1 : (((0 : Nat) : Int) == 0) = true := rfl
  go_enter Tryz.func51, Tryz.ntmps51
  go_wp2_with (go_at_call 83; refine hIs.mono ?_)
  rintro e W1 ⟨rfl, b1⟩
  go_wp2
  go_ret
  exact ⟨rfl, b1⟩
end Go.Proofs.YtfndnjmnakdglaaGreatDoor
