/-
  FACTS WITH THEIR PROOFS, and the small laws by which most of them are proved.
-/
import Derived.Test.YtlkhpgocbojdgaaGreatDoorAiX
import Derived.KernelRfl
import Derived.Laws.BitsLemmas
namespace Go.Proofs.YtlkhpgocbojdgaaGreatDoor.Ai
open Go
set_option linter.unusedSimpArgs false
set_option linter.unusedVariables false

/-- A fact and its proof. -/
structure PF (D : Code → ASt → AExit → ASt → Prop) where
  f : Fact
  ok : f.ok D

section
variable {D : Code → ASt → AExit → ASt → Prop}
def PF.go (n : Nat) : PF D := ⟨.go n, trivial⟩
def PF.b {a r : Bool} (h : a = r) : PF D := ⟨.b a r, h⟩
def PF.n {a r : Nat} (h : a = r) : PF D := ⟨.n a r, h⟩
def PF.v {a r : Value} (h : a = r) : PF D := ⟨.v a r, h⟩
def PF.l {a r : List Value} (h : a = r) : PF D := ⟨.l a r, h⟩
def PF.ol {a : Option (List Value)} {r : List Value} (h : a = some r) : PF D := ⟨.ol a r, h⟩
def PF.ov {a : Option Value} {r : Value} (h : a = some r) : PF D := ⟨.ov a r, h⟩
def PF.on {a : Option Nat} {r : Nat} (h : a = some r) : PF D := ⟨.on a r, h⟩
def PF.om {a : Option (List MapEntry × Nat)} {r : List MapEntry × Nat} (h : a = some r) : PF D := ⟨.om a r, h⟩
def PF.oc {a : Option (Value × AHeap)} {r : Value × AHeap} (h : a = some r) : PF D := ⟨.oc a r, h⟩
def PF.loop (sp : Can) {c : Code} {s : ASt} {x : AExit} {s' : ASt} (h : D c s x s') : PF D := ⟨.loop sp c s x s', h⟩
def facts : List (PF D) → List Fact
  | [] => []
  | p :: l => p.f :: facts l
theorem facts_ok : ∀ (l : List (PF D)), AllOk D (facts l)
  | [] => trivial
  | p :: l => ⟨p.ok, facts_ok l⟩
end

section
variable {E : Env} {base : Nat} {rd : Option Nat} {h0 : AHeap}
theorem path_pf (K : E.Runs) (hb : h0.next = base) (sp : Can) {c : Code} {s s' : ASt} {x : AExit} (l : List (PF (LoopR E rd h0))) (e : pathX E base 60 60 sp rd c s (facts l) = .ok (x, s') [] (strip (facts l))) : Den E rd h0 c s x s' :=
  path_ok K hb e (facts_ok l)
theorem top_pf (K : E.Runs) (hb : h0.next = base) {c : Code} {s s' : ASt} {x : AExit} (l : List (PF (LoopR E rd h0))) (e : xTop E base 60 60 rd c s (facts l) = .ok (x, s') [] (strip (facts l))) : Den E rd h0 c s x s' :=
  top_ok K hb e (facts_ok l)
end

namespace Fa
variable {E : Env}
theorem wrap64 {n : Int} (h1 : -9223372036854775808 ≤ n) (h2 : n ≤ 9223372036854775807) : wrapF .i64 n = n := by
  unfold wrapF
  have : inI64 n = true := by
    unfold inI64
    split
    · rename_i m
      rw [Nat.blt_eq]
      have : (Int.ofNat m) = (m : Int) := rfl
      omega
    · rename_i m
      rw [Nat.blt_eq]
      have : Int.negSucc m = -((m : Int) + 1) := Int.negSucc_eq m
      omega
  simp only [this]
/-- What two integers give, by whatever program. -/
def intA0 (op : BinOp) (k : IntKind) (a b : Int) : Option Value :=
  match op with
  | .add => some (.int k (wrapF k (a + b)))
  | .sub => some (.int k (wrapF k (a - b)))
  | .mul => some (.int k (wrapF k (a * b)))
  | .eql => some (.bool (decide (a = b)))
  | .neq => some (.bool (!decide (a = b)))
  | .lss => some (.bool (decide (a < b)))
  | .leq => some (.bool (decide (a ≤ b)))
  | .gtr => some (.bool (decide (b < a)))
  | .geq => some (.bool (decide (b ≤ a)))
  | .rem => if b = 0 then none else some (.int k (a.tmod b))
  | .quo => if b = 0 then none else some (.int k (k.wrap (a.tdiv b)))
  | .xor => some (.int k (k.wrap (BitVec.ofInt k.bits a ^^^ BitVec.ofInt k.bits b).toNat))
  | .and => some (.int k (k.wrap (BitVec.ofInt k.bits a &&& BitVec.ofInt k.bits b).toNat))
  | _ => none
theorem iadd (a b : Int) (h1 : -9223372036854775808 ≤ a + b) (h2 : a + b ≤ 9223372036854775807) : intA0 .add .i64 a b = some (.int .i64 (a + b)) := by simp only [intA0, wrap64 h1 h2]
theorem isub (a b : Int) (h1 : -9223372036854775808 ≤ a - b) (h2 : a - b ≤ 9223372036854775807) : intA0 .sub .i64 a b = some (.int .i64 (a - b)) := by simp only [intA0, wrap64 h1 h2]
theorem imul (a b : Int) (h1 : -9223372036854775808 ≤ a * b) (h2 : a * b ≤ 9223372036854775807) : intA0 .mul .i64 a b = some (.int .i64 (a * b)) := by simp only [intA0, wrap64 h1 h2]
theorem iaddr (a b r : Int) (h : a + b = r) (h1 : -9223372036854775808 ≤ r) (h2 : r ≤ 9223372036854775807) : intA0 .add .i64 a b = some (.int .i64 r) := by subst h; exact iadd a b h1 h2
theorem isubr (a b r : Int) (h : a - b = r) (h1 : -9223372036854775808 ≤ r) (h2 : r ≤ 9223372036854775807) : intA0 .sub .i64 a b = some (.int .i64 r) := by subst h; exact isub a b h1 h2
theorem ilt1 (k : IntKind) (a b : Int) (h : a < b) : intA0 .lss k a b = some (.bool true) := by simp [intA0, h]
theorem ilt0 (k : IntKind) (a b : Int) (h : b ≤ a) : intA0 .lss k a b = some (.bool false) := by simp [intA0]; omega
theorem ile1 (k : IntKind) (a b : Int) (h : a ≤ b) : intA0 .leq k a b = some (.bool true) := by simp [intA0, h]
theorem ile0 (k : IntKind) (a b : Int) (h : b < a) : intA0 .leq k a b = some (.bool false) := by simp [intA0]; omega
theorem igt1 (k : IntKind) (a b : Int) (h : b < a) : intA0 .gtr k a b = some (.bool true) := by simp [intA0, h]
theorem igt0 (k : IntKind) (a b : Int) (h : a ≤ b) : intA0 .gtr k a b = some (.bool false) := by simp [intA0]; omega
theorem ige1 (k : IntKind) (a b : Int) (h : b ≤ a) : intA0 .geq k a b = some (.bool true) := by simp [intA0, h]
theorem ige0 (k : IntKind) (a b : Int) (h : a < b) : intA0 .geq k a b = some (.bool false) := by simp [intA0]; omega
theorem ieq1 (k : IntKind) (a b : Int) (h : a = b) : intA0 .eql k a b = some (.bool true) := by simp [intA0, h]
theorem ieq0 (k : IntKind) (a b : Int) (h : ¬ a = b) : intA0 .eql k a b = some (.bool false) := by simp [intA0, h]
theorem ine1 (k : IntKind) (a b : Int) (h : ¬ a = b) : intA0 .neq k a b = some (.bool true) := by simp [intA0, h]
theorem ine0 (k : IntKind) (a b : Int) (h : a = b) : intA0 .neq k a b = some (.bool false) := by simp [intA0, h]
theorem iltb (k : IntKind) (a b : Int) (p : Bool) (h : decide (a < b) = p) : intA0 .lss k a b = some (.bool p) := by simp [intA0, h]
theorem ineb (k : IntKind) (a b : Int) (p : Bool) (h : (!decide (a = b)) = p) : intA0 .neq k a b = some (.bool p) := by simp only [intA0, h]
theorem ieqb (k : IntKind) (a b : Int) (p : Bool) (h : decide (a = b) = p) : intA0 .eql k a b = some (.bool p) := by simp only [intA0, h]
/-- x ^ y, of which the last bit matters. -/
def xorZ (x y : Int) : Int := IntKind.i64.wrap (BitVec.ofInt 64 x ^^^ BitVec.ofInt 64 y).toNat
theorem ixor (x y : Int) : intA0 .xor .i64 x y = some (.int .i64 (xorZ x y)) := rfl
theorem xor_par (a b : Nat) : (a ^^^ b) % 2 = (a + b) % 2 := by
  have h := Nat.xor_mod_two_pow (a := a) (b := b) (n := 1)
  rw [show (2 : Nat) ^ 1 = 2 from rfl] at h
  rw [h]
  rcases Nat.mod_two_eq_zero_or_one a with h1 | h1 <;> rcases Nat.mod_two_eq_zero_or_one b with h2 | h2 <;> rw [h1, h2] <;> simp <;> omega
def andZ (x y : Int) : Int := IntKind.i64.wrap (BitVec.ofInt 64 x &&& BitVec.ofInt 64 y).toNat
theorem iand (x y : Int) : intA0 .and .i64 x y = some (.int .i64 (andZ x y)) := rfl
theorem toNat_par (z : Int) : (z % ((2 ^ 64 : Nat) : Int)).toNat % 2 = (z % 2).toNat := by omega
theorem wrap_par (n : Nat) : (IntKind.i64.wrap (n : Int)) % 2 = (n : Int) % 2 := by rw [IntKind.wrap_i64]; omega
theorem wrap_bit (n : Int) (h0 : 0 ≤ n) (h1 : n < 2) : IntKind.i64.wrap n = n := by rw [IntKind.wrap_i64]; omega
theorem and_xor (x y : Int) : andZ (xorZ x y) 1 = (x + y) % 2 := by
  unfold andZ
  rw [BitVec.toNat_and, BitVec.toNat_ofInt, BitVec.toNat_ofInt, show ((1 : Int) % ((2 ^ 64 : Nat) : Int)).toNat = 1 from by decide, Nat.and_one_is_mod, toNat_par]
  have e : xorZ x y % 2 = (x + y) % 2 := by
    unfold xorZ
    rw [wrap_par, BitVec.toNat_xor, BitVec.toNat_ofInt, BitVec.toNat_ofInt]
    have h2 := xor_par (x % ((2 ^ 64 : Nat) : Int)).toNat (y % ((2 ^ 64 : Nat) : Int)).toNat
    have h3 := toNat_par x
    have h4 := toNat_par y
    generalize (x % ((2 ^ 64 : Nat) : Int)).toNat = a at *
    generalize (y % ((2 ^ 64 : Nat) : Int)).toNat = b at *
    generalize a ^^^ b = c at *
    omega
  rw [e, wrap_bit _ (by omega) (by omega)]
  omega
theorem iand1 (x y : Int) : intA0 .and .i64 (xorZ x y) 1 = some (.int .i64 ((x + y) % 2)) := by rw [iand, and_xor]
theorem irem (k : IntKind) (a b : Int) (h : ¬ b = 0) : intA0 .rem k a b = some (.int k (a.tmod b)) := by simp [intA0, h]
theorem irem2 (k : IntKind) (a b : Int) (h : ¬ b = 0) (h0 : 0 ≤ a) (h1 : 0 ≤ b) : intA0 .rem k a b = some (.int k (a % b)) := by rw [irem k a b h, Int.tmod_eq_emod_of_nonneg h0]
theorem iremE {E : Env} (k : IntKind) (a b : Int) (h : ¬ b = 0) : intA E .rem k a b = some (.int k (a.tmod b)) := by
  have e : binOp .rem 0 (.int k a) (.int k b) = Sem.pure (.int k (a.tmod b)) := by simp [binOp, Op.intDiv, h]; rfl
  show okFlat (runP E.P (binOp .rem 0 (.int k a) (.int k b))) = _
  rw [e]
  rfl
/-- max, min, a sign turned: as they come out. -/
theorem imax1 (a b : Int) (h : b ≤ a) : some (Value.int .i64 (if b > a then b else a)) = some (.int .i64 a) := by rw [if_neg (by omega)]
theorem imax2 (a b : Int) (h : a ≤ b) : some (Value.int .i64 (if b > a then b else a)) = some (.int .i64 b) := by
  by_cases e : b > a
  · rw [if_pos e]
  · rw [if_neg e]; congr 2; omega
theorem imin1 (a b : Int) (h : a ≤ b) : some (Value.int .i64 (if b < a then b else a)) = some (.int .i64 a) := by rw [if_neg (by omega)]
theorem imin2 (a b : Int) (h : b ≤ a) : some (Value.int .i64 (if b < a then b else a)) = some (.int .i64 b) := by
  by_cases e : b < a
  · rw [if_pos e]
  · rw [if_neg e]; congr 2; omega
theorem ineg (n : Int) (h1 : -9223372036854775807 ≤ n) (h2 : n ≤ 9223372036854775807) : some (Value.int .i64 (IntKind.i64.wrap (0 - n))) = some (.int .i64 (-n)) := by
  rw [IntKind.wrap_i64]
  have : (0 - n + 9223372036854775808) % 18446744073709551616 - 9223372036854775808 = -n := by omega
  rw [this]
theorem nat (k : IntKind) (n : Nat) : natV (.int k (n : Int)) = some n := rfl
theorem natOf (k : IntKind) (i : Int) (n : Nat) (h : i = n) : natV (.int k i) = some n := by subst h; rfl
theorem blt1 (a b : Nat) (h : a < b) : Nat.blt a b = true := by simpa [Nat.blt_eq] using h
theorem blt0 (a b : Nat) (h : b ≤ a) : Nat.blt a b = false := by cases e : Nat.blt a b with | false => rfl | true => exact absurd (by simpa [Nat.blt_eq] using e) (Nat.not_lt.2 h)
theorem ble1 (a b : Nat) (h : a ≤ b) : Nat.ble a b = true := Nat.ble_eq_true_of_le h
theorem ble0 (a b : Nat) (h : b < a) : Nat.ble a b = false := by cases e : Nat.ble a b with | false => rfl | true => exact absurd (Nat.le_of_ble_eq_true e) (Nat.not_le.2 h)
theorem beq1 (a b : Nat) (h : a = b) : Nat.beq a b = true := by subst h; exact Nat.beq_refl _
theorem beq0 (a b : Nat) (h : ¬ a = b) : Nat.beq a b = false := by cases e : Nat.beq a b with | false => rfl | true => exact absurd (Nat.eq_of_beq_eq_true e) h
theorem nott {a : Bool} (h : a = true) : (!a) = false := by subst h; rfl
theorem notf {a : Bool} (h : a = false) : (!a) = true := by subst h; rfl
theorem and1 {a b : Bool} (h : a = true) (k : b = true) : (a && b) = true := by subst h; exact k
theorem and01 {a b : Bool} (h : a = false) : (a && b) = false := by subst h; rfl
end Fa
theorem Fa.eqI_refl (a : Int) : eqI a a = true := by cases a <;> exact Nat.beq_refl _
end Go.Proofs.YtlkhpgocbojdgaaGreatDoor.Ai
