/-
  Words of so many bits, as numbers in cells; a digest's rounds.
-/
import Derived.Test.YthgibibeoapfbaaN1
set_option linter.unusedSimpArgs false
set_option linter.unnecessarySimpa false
set_option linter.unusedVariables false
set_option linter.unusedSectionVars false
namespace Go.Fw
/-! ### Words -/
/-- A word as a number. -/
def wn {m : Nat} (x : BitVec m) : Nat := x.toNat
section
variable {m : Nat}
theorem wx_xor {K : IntKind} (hK : K.signed = false) (hm : m ≤ K.bits) (x y : BitVec m) : bitI .xor K (wn x : Nat) (wn y : Nat) = (wn (x ^^^ y) : Nat) := by
  simp only [wn]
  have e := Nat.pow_le_pow_right (n := 2) (by decide) hm
  rw [bitI_xor hK (Nat.lt_of_lt_of_le x.isLt e) (Nat.lt_of_lt_of_le y.isLt e), BitVec.toNat_xor]
theorem wx_and {K : IntKind} (hK : K.signed = false) (hm : m ≤ K.bits) (x y : BitVec m) : bitI .and K (wn x : Nat) (wn y : Nat) = (wn (x &&& y) : Nat) := by
  simp only [wn]
  have e := Nat.pow_le_pow_right (n := 2) (by decide) hm
  rw [bitI_and hK (Nat.lt_of_lt_of_le x.isLt e) (Nat.lt_of_lt_of_le y.isLt e), BitVec.toNat_and]
theorem wx_or {K : IntKind} (hK : K.signed = false) (hm : m ≤ K.bits) (x y : BitVec m) : bitI .or K (wn x : Nat) (wn y : Nat) = (wn (x ||| y) : Nat) := by
  simp only [wn]
  have e := Nat.pow_le_pow_right (n := 2) (by decide) hm
  rw [bitI_or hK (Nat.lt_of_lt_of_le x.isLt e) (Nat.lt_of_lt_of_le y.isLt e), BitVec.toNat_or]
theorem wx_shr (x : BitVec m) (s : Nat) : ((wn x : Nat) : Int).fdiv (2 ^ s) = (wn (x >>> s) : Nat) := by
  simp only [wn]
  rw [shr_nat, BitVec.toNat_ushiftRight, Nat.shiftRight_eq_div_pow]
end
theorem wx_add64 (x y : BitVec 64) : IntKind.u64.wrap ((wn x : Nat) + (wn y : Nat)) = (wn (x + y) : Nat) := by
  simp only [wn]
  rw [BitVec.toNat_add, ← Int.natCast_add, wrapu64]
theorem wx_not64 (x : BitVec 64) : bitI .xor .u64 (if IntKind.u64.signed then -1 else IntKind.u64.max) (wn x : Nat) = (wn (~~~x) : Nat) := by
  have e : (if IntKind.u64.signed then -1 else IntKind.u64.max) = ((wn (BitVec.allOnes 64) : Nat) : Int) := rfl
  have h := wx_xor (K := .u64) rfl (by decide) (BitVec.allOnes 64) x
  rw [BitVec.allOnes_xor] at h
  rw [e]; exact h
theorem wx_shl64 (x : BitVec 64) (s : Nat) (h : s < 64) : IntKind.u64.wrap ((wn x : Nat) * 2 ^ (min s 64)) = (wn (x <<< s) : Nat) := by
  simp only [wn]
  rw [show min s 64 = s by omega, BitVec.toNat_shiftLeft, Nat.shiftLeft_eq, show ((x.toNat : Nat) : Int) * 2 ^ s = ((x.toNat * 2 ^ s : Nat) : Int) by simp, wrapu64]
/-- A turn to the left by what is below 0. -/
theorem neg_and (n k : Nat) (h1 : 1 ≤ n) (h2 : n < 2 ^ k) (hk : k ≤ 6) : bitI .and .u64 (IntKind.u64.wrap (-(n : Int))) ((2 ^ k - 1 : Nat) : Int) = ((2 ^ k - n : Nat) : Int) := by
  have hp : (2 : Nat) ^ k ≤ 2 ^ 6 := Nat.pow_le_pow_right (by decide) hk
  have e : IntKind.u64.wrap (-(n : Int)) = ((2 ^ 64 - n : Nat) : Int) := by
    unfold IntKind.wrap
    simp [IntKind.signed, IntKind.bits]
    omega
  rw [e, bitI_and rfl (show 2 ^ 64 - n < 2 ^ 64 by omega) (show 2 ^ k - 1 < 2 ^ 64 by omega), Nat.and_two_pow_sub_one_eq_mod]
  congr 1
  have e2 : (2 : Nat) ^ 64 = 2 ^ k * 2 ^ (64 - k) := by rw [← Nat.pow_add]; congr 1; omega
  have e3 : 1 ≤ 2 ^ (64 - k) := Nat.one_le_two_pow
  obtain ⟨c, hc⟩ := Nat.exists_eq_add_of_le e3
  rw [e2, hc, Nat.mul_add, Nat.mul_one, show 2 ^ k + 2 ^ k * c - n = (2 ^ k - n) + 2 ^ k * c by omega, Nat.add_mul_mod_self_left]
  exact Nat.mod_eq_of_lt (by omega)
theorem rotr_eq {m : Nat} (x : BitVec m) (n : Nat) (h : n < m) : (x <<< (m - n)) ||| (x >>> n) = x.rotateRight n := by
  rw [BitVec.or_comm]
  simp only [BitVec.rotateRight, BitVec.rotateRightAux, Nat.mod_eq_of_lt h]
/-! ### The digest -/
structure St8 (m : Nat) where
  a : BitVec m
  b : BitVec m
  c : BitVec m
  d : BitVec m
  e : BitVec m
  f : BitVec m
  g : BitVec m
  h : BitVec m
def St8.at {m : Nat} (s : St8 m) : Nat → BitVec m
  | 0 => s.a
  | 1 => s.b
  | 2 => s.c
  | 3 => s.d
  | 4 => s.e
  | 5 => s.f
  | 6 => s.g
  | _ => s.h
def St8.cells {m : Nat} (K : IntKind) (s : St8 m) : List AV := [.int K (wn s.a : Nat), .int K (wn s.b : Nat), .int K (wn s.c : Nat), .int K (wn s.d : Nat), .int K (wn s.e : Nat), .int K (wn s.f : Nat), .int K (wn s.g : Nat), .int K (wn s.h : Nat)]
/-- A digest's form: how far words are turned, how many rounds, their constants, the state at first. -/
structure Sha (m : Nat) where
  R : Nat
  A : Nat × Nat × Nat
  E : Nat × Nat × Nat
  s0 : Nat × Nat × Nat
  s1 : Nat × Nat × Nat
  k : Nat → BitVec m
  h0 : St8 m
section
variable {m : Nat}
def bigT (t : Nat × Nat × Nat) (x : BitVec m) : BitVec m := x.rotateRight t.1 ^^^ x.rotateRight t.2.1 ^^^ x.rotateRight t.2.2
def smallT (t : Nat × Nat × Nat) (x : BitVec m) : BitVec m := x.rotateRight t.1 ^^^ x.rotateRight t.2.1 ^^^ (x >>> t.2.2)
/-- The number of bytes, the highest first. -/
def beN (l : List UInt8) : Nat := l.foldl (fun x b => x * 256 + b.toNat) 0
variable (F : Sha m)
def nextW (blk : List UInt8) (l : List (BitVec m)) (i : Nat) : BitVec m :=
  if i < 16 then BitVec.ofNat m (beN ((blk.drop (m / 8 * i)).take (m / 8)))
  else l.getD (i - 16) 0 + smallT F.s0 (l.getD (i - 15) 0) + l.getD (i - 7) 0 + smallT F.s1 (l.getD (i - 2) 0)
/-- The words of a block, so many of them. -/
def wL (blk : List UInt8) : Nat → List (BitVec m)
  | 0 => []
  | i + 1 => wL blk i ++ [nextW F blk (wL blk i) i]
def rnd (k w : BitVec m) (s : St8 m) : St8 m :=
  let t := s.h + bigT F.E s.e + ((s.e &&& s.f) ^^^ (~~~s.e &&& s.g)) + k + w
  ⟨t + bigT F.A s.a + ((s.a &&& s.b) ^^^ (s.a &&& s.c) ^^^ (s.b &&& s.c)), s.a, s.b, s.c, s.d + t, s.e, s.f, s.g⟩
/-- The state behind so many rounds. -/
def rnds (ws : List (BitVec m)) (s : St8 m) : Nat → St8 m
  | 0 => s
  | i + 1 => rnd F (F.k i) (ws.getD i 0) (rnds ws s i)
def St8.add (s t : St8 m) : St8 m := ⟨s.a + t.a, s.b + t.b, s.c + t.c, s.d + t.d, s.e + t.e, s.f + t.f, s.g + t.g, s.h + t.h⟩
def comp (s : St8 m) (blk : List UInt8) : St8 m := s.add (rnds F (wL F blk F.R) s F.R)
/-- The state behind so many blocks. -/
def runB : Nat → St8 m → List UInt8 → St8 m
  | 0, s, _ => s
  | n + 1, s, l => runB n (comp F s (l.take (2 * m))) (l.drop (2 * m))
/-- A byte of a state. -/
def dgN (s : St8 m) : Nat → Nat := fun p => wn (s.at (p / (m / 8))) / 2 ^ (m - 8 - 8 * (p % (m / 8))) % 256
def dgB (s : St8 m) : List UInt8 := (List.range m).map fun p => UInt8.ofNat (dgN s p)
theorem wL_length (blk : List UInt8) : ∀ i, (wL F blk i).length = i
  | 0 => rfl
  | i + 1 => by simp [wL, wL_length blk i]
theorem wL_getD (blk : List UInt8) {i k : Nat} (h : k < i) : ∀ {j}, i ≤ j → (wL F blk j).getD k 0 = (wL F blk i).getD k 0
  | 0, hj => by omega
  | j + 1, hj => by
    by_cases e : i = j + 1
    · subst e; rfl
    · rw [← wL_getD blk h (j := j) (by omega)]
      simp only [wL]
      have hl := wL_length F blk j
      rw [List.getD_eq_getElem?_getD, List.getD_eq_getElem?_getD, List.getElem?_append_left (by omega)]
theorem wL_last (blk : List UInt8) (i : Nat) : (wL F blk (i + 1)).getD i 0 = nextW F blk (wL F blk i) i := by
  have hl := wL_length F blk i
  simp only [wL]
  rw [List.getD_eq_getElem?_getD, List.getElem?_append_right (by omega), hl]
  simp
/-- The words so far, as an array. -/
def wA (blk : List UInt8) (i : Nat) : Nat → Nat := fun k => wn ((wL F blk i).getD k 0)
theorem wA_zero (blk : List UInt8) : wA F blk 0 = fun _ => 0 := by funext k; simp [wA, wL, wn]
theorem wL_upd (blk : List UInt8) (i : Nat) : upd (wA F blk i) i (wn (nextW F blk (wL F blk i) i)) = wA F blk (i + 1) := by
  funext k
  simp only [upd, wA]
  have hl := wL_length F blk i
  by_cases h : k = i
  · subst h; rw [if_pos rfl, wL_last]
  · rw [if_neg h]
    by_cases h2 : k < i
    · rw [wL_getD F blk h2 (j := i + 1) (by omega)]
    · rw [List.getD_eq_getElem?_getD, List.getD_eq_getElem?_getD, List.getElem?_eq_none (by omega), List.getElem?_eq_none (by rw [wL_length]; omega)]
theorem runB_add : ∀ (i j : Nat) (s : St8 m) (l : List UInt8), runB F (i + j) s l = runB F j (runB F i s l) (l.drop (2 * m * i))
  | 0, j, s, l => by simp [runB]
  | i + 1, j, s, l => by
    rw [show i + 1 + j = (i + j) + 1 by omega]
    simp only [runB]
    rw [runB_add i j, List.drop_drop, Nat.mul_succ, Nat.add_comm]
theorem runB_append : ∀ (i : Nat) (s : St8 m) (l x : List UInt8), 2 * m * i ≤ l.length → runB F i s (l ++ x) = runB F i s l
  | 0, _, _, _, _ => rfl
  | i + 1, s, l, x, h => by
    rw [Nat.mul_succ] at h
    simp only [runB]
    rw [List.take_append_of_le_length (by omega), List.drop_append_of_le_length (by omega), runB_append i _ _ _ (by simp; omega)]
/-- What is left of bytes behind their blocks. -/
def rst (m : Nat) (s : List UInt8) : List UInt8 := s.drop (2 * m * (s.length / (2 * m)))
/-- The state behind bytes. -/
def hst (s : List UInt8) : St8 m := runB F (s.length / (2 * m)) F.h0 s
theorem rst_len (s : List UInt8) : (rst m s).length = s.length % (2 * m) := by
  have := Nat.mod_add_div s.length (2 * m)
  simp only [rst, List.length_drop]; omega
theorem hst_append (s b : List UInt8) (hm : 0 < m) : runB F ((rst m s ++ b).length / (2 * m)) (hst F s) (rst m s ++ b) = hst F (s ++ b) ∧ (rst m s ++ b).drop (2 * m * ((rst m s ++ b).length / (2 * m))) = rst m (s ++ b) := by
  have h1 := Nat.mod_add_div s.length (2 * m)
  have hle : 2 * m * (s.length / (2 * m)) ≤ s.length := Nat.mul_div_le _ _
  have e : (s ++ b).length / (2 * m) = s.length / (2 * m) + (rst m s ++ b).length / (2 * m) := by
    rw [List.length_append, List.length_append, rst_len]
    conv => lhs; rw [← h1, Nat.add_right_comm, Nat.add_mul_div_left _ _ (by omega), Nat.add_comm]
  have e2 : (s ++ b).drop (2 * m * (s.length / (2 * m))) = rst m s ++ b := by
    rw [List.drop_append_of_le_length hle]; rfl
  refine ⟨?_, ?_⟩
  · simp only [hst]
    rw [e, runB_add, e2, runB_append F _ _ _ _ hle]
  · conv => rhs; unfold rst
    rw [e, Nat.mul_add, ← List.drop_drop, e2]
end
/-- The constants. -/
def shaW : List Nat := [4794697086780616226, 8158064640168781261, 13096744586834688815, 16840607885511220156, 4131703408338449720, 6480981068601479193, 10538285296894168987, 12329834152419229976, 15566598209576043074, 1334009975649890238, 2608012711638119052, 6128411473006802146, 8268148722764581231, 9286055187155687089, 11230858885718282805, 13951009754708518548, 16472876342353939154, 17275323862435702243, 1135362057144423861, 2597628984639134821, 3308224258029322869, 5365058923640841347, 6679025012923562964, 8573033837759648693, 10970295158949994411, 12119686244451234320, 12683024718118986047, 13788192230050041572, 14330467153632333762, 15395433587784984357, 489312712824947311, 1452737877330783856, 2861767655752347644, 3322285676063803686, 5560940570517711597, 5996557281743188959, 7280758554555802590, 8532644243296465576, 9350256976987008742, 10552545826968843579, 11727347734174303076, 12113106623233404929, 14000437183269869457, 14369950271660146224, 15101387698204529176, 15463397548674623760, 17586052441742319658, 1182934255886127544, 1847814050463011016, 2177327727835720531, 2830643537854262169, 3796741975233480872, 4115178125766777443, 5681478168544905931, 6601373596472566643, 7507060721942968483, 8399075790359081724, 8693463985226723168, 9568029438360202098, 10144078919501101548, 10430055236837252648, 11840083180663258601, 13761210420658862357, 14299343276471374635, 14566680578165727644, 15097957966210449927, 16922976911328602910, 17689382322260857208, 500013540394364858, 748580250866718886, 1242879168328830382, 1977374033974150939, 2944078676154940804, 3659926193048069267, 4368137639120453308, 4836135668995329356, 5532061633213252278, 6448918945643986474, 6902733635092675308, 7801388544844847127]
def shaS : List Nat := [7640891576956012808, 13503953896175478587, 4354685564936845355, 11912009170470909681, 5840696475078001361, 11170449401992604703, 2270897969802886507, 6620516959819538809]
def F64 : Sha 64 := ⟨80, (28, 34, 39), (14, 18, 41), (1, 8, 7), (19, 61, 6), fun i => BitVec.ofNat 64 (shaW.getD i 0), ⟨BitVec.ofNat 64 7640891576956012808, BitVec.ofNat 64 13503953896175478587, BitVec.ofNat 64 4354685564936845355, BitVec.ofNat 64 11912009170470909681, BitVec.ofNat 64 5840696475078001361, BitVec.ofNat 64 11170449401992604703, BitVec.ofNat 64 2270897969802886507, BitVec.ofNat 64 6620516959819538809⟩⟩
theorem wrap_b64 (b : UInt8) : IntKind.u64.wrap (b.toNat : Nat) = (b.toNat : Nat) := by rw [wrapu64]; have := b.toNat_lt; congr 1; omega
/-- Cells of a hash: its state, what is left, how many bytes it took. -/
def hC {m : Nat} (K : IntKind) (s : St8 m) (j o l n : Nat) : List AV := [.int K (wn s.a : Nat), .int K (wn s.b : Nat), .int K (wn s.c : Nat), .int K (wn s.d : Nat), .int K (wn s.e : Nat), .int K (wn s.f : Nat), .int K (wn s.g : Nat), .int K (wn s.h : Nat), .slice 1 j o l none, .int .u64 (n : Nat)]
/-- The first words of a sum, others behind them. -/
def hM {m : Nat} (K : IntKind) (i : Nat) (s t : St8 m) (o l n : Nat) : List AV := [.int K (if 0 < i then wn (s.a + t.a) else wn s.a : Nat), .int K (if 1 < i then wn (s.b + t.b) else wn s.b : Nat), .int K (if 2 < i then wn (s.c + t.c) else wn s.c : Nat), .int K (if 3 < i then wn (s.d + t.d) else wn s.d : Nat), .int K (if 4 < i then wn (s.e + t.e) else wn s.e : Nat), .int K (if 5 < i then wn (s.f + t.f) else wn s.f : Nat), .int K (if 6 < i then wn (s.g + t.g) else wn s.g : Nat), .int K (if 7 < i then wn (s.h + t.h) else wn s.h : Nat), .slice 1 1 o l none, .int .u64 (n : Nat)]
/-- The blocks of a hash behind bytes: 'pre' is what lies ahead of what is left. -/
def hsh {m : Nat} (F : Sha m) (K : IntKind) (T j : Nat) (st pre : List UInt8) (n : Nat) : Option Blk := some ⟨hC K (hst F st) j pre.length (rst m st).length n, T, true⟩
def dat (m T8 : Nat) (st pre : List UInt8) : Option Blk := some ⟨(pre ++ rst m st).map bv, T8, false⟩
def pre2 (m : Nat) (st b : List UInt8) : List UInt8 := (rst m st ++ b).take (2 * m * ((rst m st ++ b).length / (2 * m)))
theorem pre2_rst {m : Nat} (hm : 0 < m) (st b : List UInt8) : pre2 m st b ++ rst m (st ++ b) = rst m st ++ b := by
  have h := (hst_append (m := m) (F := (⟨0, (0, 0, 0), (0, 0, 0), (0, 0, 0), (0, 0, 0), fun _ => 0, ⟨0, 0, 0, 0, 0, 0, 0, 0⟩⟩ : Sha m)) st b hm).2
  rw [pre2, ← h, List.take_append_drop]
theorem pre2_len {m : Nat} (st b : List UInt8) : (pre2 m st b).length = 2 * m * ((rst m st ++ b).length / (2 * m)) := by
  simp only [pre2, List.length_take]
  exact Nat.min_eq_left (Nat.mul_div_le _ _)
theorem runB_succ {m : Nat} (F : Sha m) (k : Nat) (s : St8 m) (l : List UInt8) : runB F (k + 1) s l = comp F (runB F k s l) ((l.drop (2 * m * k)).take (2 * m)) := by
  rw [runB_add]; rfl
theorem rst_nil (m : Nat) : rst m [] = [] := by simp [rst]
/-- So many zeros are put in. -/
def zN (B T r : Nat) : Nat := (T + B - (r + 1) % B) % B
def be8 (x : Nat) : List UInt8 := (List.range 8).map fun i => UInt8.ofNat (x / 2 ^ (56 - 8 * i))
/-- What is put behind so many bytes. -/
def tailB (m n : Nat) : List UInt8 := (128 :: List.replicate (zN (2 * m) (14 * (m / 8)) (n % (2 * m))) 0) ++ (if m = 64 then List.replicate 8 0 else []) ++ be8 (8 * n)
/-- The digest of bytes. -/
def dgst {m : Nat} (F : Sha m) (st : List UInt8) : List UInt8 := dgB (hst F (st ++ tailB m st.length))
theorem zN_64 (r j : Nat) (hr : r < 64) (hj : j ≤ zN 64 56 r) : (r + (1 + j)) % 64 = 56 ↔ j = zN 64 56 r := by
  simp only [zN] at *; omega
theorem zN_128 (r j : Nat) (hr : r < 128) (hj : j ≤ zN 128 112 r) : (r + (1 + j)) % 128 = 112 ↔ j = zN 128 112 r := by
  simp only [zN] at *; omega
theorem zN_lt (B T r : Nat) (h : 0 < B) : zN B T r < B := Nat.mod_lt _ h
theorem be8_len (x : Nat) : (be8 x).length = 8 := by simp [be8]
theorem cells_at {m : Nat} (K : IntKind) (s : St8 m) {i : Nat} (h : i < 8) : (s.cells K)[i]? = some (.int K (wn (s.at i) : Nat)) := by
  match i, h with
  | 0, _ => rfl
  | 1, _ => rfl
  | 2, _ => rfl
  | 3, _ => rfl
  | 4, _ => rfl
  | 5, _ => rfl
  | 6, _ => rfl
  | 7, _ => rfl
@[simp] theorem idsL_repI (q : Nat → Bool) (k : Nat) (K : IntKind) (n : Int) : idsL q (List.replicate k (.int K n)) = true := idsL_rep k _ (by simp [AV.ids])
@[simp] theorem ltL_repI (n : Nat) (k : Nat) (K : IntKind) (i : Int) : ltL n (List.replicate k (.int K i)) = true := ltL_rep n k _ (by simp [AV.ltI])
@[simp] theorem cleanL_repI (k : Nat) (K : IntKind) (i : Int) : cleanL (List.replicate k (.int K i)) = true := cleanL_rep k _ (by simp [AV.clean])
@[simp] theorem subL_repI (s : Nat → Nat → Nat → Nat → Option Nat → AV) (p : Nat → Nat → AV) (k : Nat) (K : IntKind) (i : Int) : subL s p (List.replicate k (.int K i)) = List.replicate k (.int K i) := subL_rep k _ (by simp [AV.sub])
/-- The first bytes of a number's eight. -/
def beP (x i : Nat) : List UInt8 := (List.range i).map fun i => UInt8.ofNat (x / 2 ^ (56 - 8 * i))
theorem beP_succ (x i : Nat) : beP x (i + 1) = beP x i ++ [UInt8.ofNat (x / 2 ^ (56 - 8 * i))] := by simp [beP, List.range_succ]
theorem beP_len (x i : Nat) : (beP x i).length = i := by simp [beP]
theorem beP_byte (x i : Nat) (s : Nat) (hs : s = 56 - 8 * i) : IntKind.u8.wrap (((x : Nat) : Int).fdiv (2 ^ (min s 64))) = ((UInt8.ofNat (x / 2 ^ (56 - 8 * i))).toNat : Int) := by
  rw [show min s 64 = 56 - 8 * i by omega, shr_nat, wrap8_u8]
theorem dgB_arr {m : Nat} (s : St8 m) : arr .u8 m (dgN s) = (dgB s).map bv := by
  refine List.ext_getElem (by simp [dgB]) fun k h1 h2 => ?_
  simp [dgB, bv]
  simp only [dgN]; omega
@[simp] theorem ltL_cells {m : Nat} (n : Nat) (K : IntKind) (s : St8 m) : ltL n (s.cells K) = true := by simp [St8.cells, ltL, AV.ltI]
@[simp] theorem idsL_cells {m : Nat} (q : Nat → Bool) (K : IntKind) (s : St8 m) : idsL q (s.cells K) = true := by simp [St8.cells, idsL, AV.ids]
@[simp] theorem cleanL_cells {m : Nat} (K : IntKind) (s : St8 m) : cleanL (s.cells K) = true := by simp [St8.cells, cleanL, AV.clean]
@[simp] theorem cells_length {m : Nat} (K : IntKind) (s : St8 m) : (s.cells K).length = 8 := by simp [St8.cells]
instance : Inhabited Md := ⟨⟨false, false, false⟩⟩
/-- Lists of bytes in cells, with what is told of each. -/
def lsV (x : Md × List UInt8) : AV := .list 1 x.1 (x.2.map bv)
@[simp] theorem ltL_lsV (n : Nat) (l : List (Md × List UInt8)) : ltL n (l.map lsV) = true := ltL_map _ fun x => by simp [lsV, AV.ltI, ltL_bv]
@[simp] theorem idsL_lsV (q : Nat → Bool) (l : List (Md × List UInt8)) : idsL q (l.map lsV) = true := idsL_map _ fun x => by simp [lsV, AV.ids, idsL_bv]
@[simp] theorem subL_lsV (s : Nat → Nat → Nat → Nat → Option Nat → AV) (p : Nat → Nat → AV) (l : List (Md × List UInt8)) : subL s p (l.map lsV) = l.map lsV := subL_map _ fun x => by simp [lsV, AV.sub, subL_bv]
/-- All bytes of lists. -/
def allB (l : List (Md × List UInt8)) : List UInt8 := l.flatMap (·.2)
theorem allB_take (l : List (Md × List UInt8)) (i : Nat) (h : i < l.length) : allB (l.take (i + 1)) = allB (l.take i) ++ l[i].2 := by
  simp only [allB]
  rw [List.take_succ_eq_append_getElem h, List.flatMap_append]
  simp
theorem allB_le (l : List (Md × List UInt8)) (i : Nat) : (allB (l.take i)).length ≤ (allB l).length := by
  have e : allB l = allB (l.take i) ++ allB (l.drop i) := by
    simp only [allB]
    rw [← List.flatMap_append, List.take_append_drop]
  rw [e, List.length_append]; omega
@[simp] theorem dgst_len {m : Nat} (F : Sha m) (st : List UInt8) : (dgst F st).length = m := by simp [dgst, dgB]
theorem beN_snoc (l : List UInt8) (b : UInt8) : beN (l ++ [b]) = beN l * 256 + b.toNat := by simp [beN, List.foldl_append]
theorem beN_lt (l : List UInt8) : beN l < 256 ^ l.length := by
  have h : ∀ (r : List UInt8), beN r.reverse < 256 ^ r.length := by
    intro r
    induction r with
    | nil => simp [beN]
    | cons b r ih =>
      rw [List.reverse_cons, beN_snoc, List.length_cons, Nat.pow_succ]
      have := b.toNat_lt
      omega
  have := h l.reverse
  simpa using this
end Go.Fw
namespace Go.Fw
/-! ### The document's digest -/
section
variable {m : Nat}
theorem ch_or (e f g : BitVec m) : (e &&& f) ||| (~~~e &&& g) = (e &&& f) ^^^ (~~~e &&& g) := by
  ext i hi
  simp only [BitVec.getElem_or, BitVec.getElem_xor, BitVec.getElem_and, BitVec.getElem_not]
  cases e[i] <;> cases f[i] <;> cases g[i] <;> rfl
theorem mj_or (a b c : BitVec m) : (a &&& b) ||| (a &&& c) ||| (b &&& c) = (a &&& b) ^^^ (a &&& c) ^^^ (b &&& c) := by
  ext i hi
  simp only [BitVec.getElem_or, BitVec.getElem_xor, BitVec.getElem_and]
  cases a[i] <;> cases b[i] <;> cases c[i] <;> rfl
theorem wn_lt (x : BitVec m) : wn x < 2 ^ m := x.isLt
theorem wn_add (x y : BitVec m) : wn (x + y) = (wn x + wn y) % 2 ^ m := BitVec.toNat_add x y
theorem turn_val (hm : m ≤ 64) (x : BitVec m) (n : Nat) (hn : n < m) : ((wn x / 2 ^ n) ||| (wn x * 2 ^ (m - n) % 2 ^ 64)) % 2 ^ m = wn (x.rotateRight n) := by
  rw [← rotr_eq x n hn]
  simp only [wn, BitVec.toNat_or, BitVec.toNat_ushiftRight, BitVec.toNat_shiftLeft, Nat.shiftRight_eq_div_pow, Nat.shiftLeft_eq]
  rw [Nat.or_mod_two_pow, Nat.mod_mod_of_dvd _ (Nat.pow_dvd_pow 2 hm), Nat.mod_eq_of_lt (Nat.lt_of_le_of_lt (Nat.div_le_self _ _) x.isLt), Nat.or_comm]
theorem not_val (hm : m ≤ 64) (x : BitVec m) : ((2 ^ 64 - 1) ^^^ wn x) % 2 ^ m = wn (~~~x) := by
  have e : (2 ^ 64 - 1) % 2 ^ m = 2 ^ m - 1 := by
    have h1 : 1 ≤ 2 ^ (64 - m) := Nat.one_le_two_pow
    have h2 : (2 : Nat) ^ 64 = 2 ^ m * 2 ^ (64 - m) := by rw [← Nat.pow_add]; congr 1; omega
    obtain ⟨c, hc⟩ := Nat.exists_eq_add_of_le h1
    have h3 : 0 < 2 ^ m := Nat.pow_pos (by decide)
    rw [h2, hc, Nat.mul_add, Nat.mul_one, show 2 ^ m + 2 ^ m * c - 1 = (2 ^ m - 1) + 2 ^ m * c by omega, Nat.add_mul_mod_self_left, Nat.mod_eq_of_lt (by omega)]
  rw [Nat.xor_mod_two_pow, e, Nat.mod_eq_of_lt (wn_lt x)]
  have h := congrArg BitVec.toNat (BitVec.allOnes_xor (x := x))
  rw [BitVec.toNat_xor, BitVec.toNat_allOnes] at h
  exact h
end
end Go.Fw
namespace Go.Fw
section
variable {m : Nat}
/-- What the code has of a form. -/
structure OkF (F : Sha m) : Prop where
  R : F.R ≤ 80
  A : (0 < F.A.1 ∧ F.A.1 < m) ∧ (0 < F.A.2.1 ∧ F.A.2.1 < m) ∧ (0 < F.A.2.2 ∧ F.A.2.2 < m)
  E : (0 < F.E.1 ∧ F.E.1 < m) ∧ (0 < F.E.2.1 ∧ F.E.2.1 < m) ∧ (0 < F.E.2.2 ∧ F.E.2.2 < m)
  s0 : (0 < F.s0.1 ∧ F.s0.1 < m) ∧ (0 < F.s0.2.1 ∧ F.s0.2.1 < m) ∧ F.s0.2.2 < m
  s1 : (0 < F.s1.1 ∧ F.s1.1 < m) ∧ (0 < F.s1.2.1 ∧ F.s1.2.1 < m) ∧ F.s1.2.2 < m
  k : ∀ i, i < F.R → shaW.getD i 0 / 2 ^ (64 - m) = wn (F.k i)
  h0 : ∀ i, i < 8 → shaS.getD i 0 / 2 ^ (64 - m) = wn (F.h0.at i)
/-- The bytes of the length, as the document puts them. -/
def lnB (m L i : Nat) : List UInt8 := (List.range i).map fun i => if m / 4 - 1 - i < 8 then UInt8.ofNat (8 * L / 2 ^ (8 * (m / 4 - 1 - i))) else 0
theorem lnB_succ (m L i : Nat) : lnB m L (i + 1) = lnB m L i ++ [if m / 4 - 1 - i < 8 then UInt8.ofNat (8 * L / 2 ^ (8 * (m / 4 - 1 - i))) else 0] := by simp [lnB, List.range_succ]
theorem lnB_len (m L i : Nat) : (lnB m L i).length = i := by simp [lnB]
theorem lnB_all (L : Nat) : (m = 32 ∨ m = 64) → lnB m L (m / 4) = (if m = 64 then List.replicate 8 0 else []) ++ be8 (8 * L) := by
  rintro (rfl | rfl) <;> rfl
def wV (x : BitVec m) : AV := .int .u64 (wn x : Nat)
section
variable (l : List (BitVec m))
@[simp] theorem cleanL_wV : cleanL (l.map wV) = true := cleanL_map _ fun x => by simp [wV, AV.clean]
@[simp] theorem ltL_wV (n : Nat) : ltL n (l.map wV) = true := ltL_map _ fun x => by simp [wV, AV.ltI]
@[simp] theorem idsL_wV (q : Nat → Bool) : idsL q (l.map wV) = true := idsL_map _ fun x => by simp [wV, AV.ids]
@[simp] theorem subL_wV (s : Nat → Nat → Nat → Nat → Option Nat → AV) (p : Nat → Nat → AV) : subL s p (l.map wV) = l.map wV := subL_map _ fun x => by simp [wV, AV.sub]
end
def St8.ws (s : St8 m) : List (BitVec m) := [s.a, s.b, s.c, s.d, s.e, s.f, s.g, s.h]
theorem ws_at (s : St8 m) {i : Nat} (h : i < 8) : s.ws[i]? = some (s.at i) := by
  match i, h with
  | 0, _ => rfl
  | 1, _ => rfl
  | 2, _ => rfl
  | 3, _ => rfl
  | 4, _ => rfl
  | 5, _ => rfl
  | 6, _ => rfl
  | 7, _ => rfl
theorem ws_take (s : St8 m) {i : Nat} (h : i < 8) : s.ws.take (i + 1) = s.ws.take i ++ [s.at i] := by
  rw [List.take_add_one, ws_at s h]; rfl
/-- The first words of a sum, others behind them. -/
def hX (i : Nat) (s t : St8 m) : List (BitVec m) := [if 0 < i then s.a + t.a else s.a, if 1 < i then s.b + t.b else s.b, if 2 < i then s.c + t.c else s.c, if 3 < i then s.d + t.d else s.d, if 4 < i then s.e + t.e else s.e, if 5 < i then s.f + t.f else s.f, if 6 < i then s.g + t.g else s.g, if 7 < i then s.h + t.h else s.h]
theorem dgB_take (s : St8 m) {p : Nat} (h : p < m) : (dgB s).take (p + 1) = (dgB s).take p ++ [UInt8.ofNat (dgN s p)] := by
  rw [List.take_add_one]
  congr 1
  simp [dgB, h]
end
theorem okF64 : OkF F64 where
  R := by decide
  A := by decide
  E := by decide
  s0 := by decide
  s1 := by decide
  k := by decide +kernel
  h0 := by decide +kernel
end Go.Fw
namespace Go.Fw
section
variable {m : Nat}
@[simp] theorem ws_len (s : St8 m) : s.ws.length = 8 := by simp [St8.ws]
theorem wsm_take (s : St8 m) {i : Nat} (h : i < 8) : (s.ws.map wV).take (i + 1) = (s.ws.map wV).take i ++ [.int .u64 (wn (s.at i) : Nat)] := by
  rw [← List.map_take, ws_take s h, List.map_append, List.map_take]; rfl
theorem wsm_all (s : St8 m) : (s.ws.map wV).take 8 = s.ws.map wV := List.take_of_length_le (by simp)
end
end Go.Fw
namespace Go.Fw
section
variable {P : Program} {L : Nat} {k : List It} {e : Env} {H : Heap} {Q : Post} {v : Option AV} {t : Nat} {ca cb : KCode}
/-- Where ways meet: the end is told. -/
theorem WC_joinQ (e1 : Env) (H1 : Heap) {c : KCode} (h1 : W P L (.c c :: k) e1 H1 Q) (h2 : ∀ k', W P L k' e1 H1 Q → WC P L v t ca cb e H k' Q) : WC P L v t ca cb e H (.c c :: k) Q := h2 _ h1
end
end Go.Fw
namespace Go.Fw
theorem sum_cut {m : Nat} (hm : m = 32 ∨ m = 64) (a b c d e f g : Nat) : ((((((a + b) % 2 ^ 64 + c) % 2 ^ 64 + d) % 2 ^ 64 + e) % 2 ^ 64 + (f + g) % 2 ^ 64) % 2 ^ 64) % 2 ^ m = ((((((a + b) % 2 ^ m + c) % 2 ^ m + d) % 2 ^ m + e) % 2 ^ m + f) % 2 ^ m + g) % 2 ^ m := by
  rcases hm with rfl | rfl <;> omega
theorem sum_cut2 {m : Nat} (hm : m = 32 ∨ m = 64) (x a b c d e : Nat) : ((x + ((((a + b) % 2 ^ 64 + c) % 2 ^ 64 + d) % 2 ^ 64 + e) % 2 ^ 64) % 2 ^ 64) % 2 ^ m = (x + ((((a + b) % 2 ^ m + c) % 2 ^ m + d) % 2 ^ m + e) % 2 ^ m) % 2 ^ m := by
  rcases hm with rfl | rfl <;> omega
theorem sum_cut3 {m : Nat} (hm : m = 32 ∨ m = 64) (a b : Nat) : ((a + b) % 2 ^ 64) % 2 ^ m = (a + b) % 2 ^ m := by
  rcases hm with rfl | rfl <;> omega
theorem not_raw {m : Nat} (x : BitVec m) (hm : m ≤ 64) : bitI .xor .u64 (if IntKind.u64.signed then -1 else IntKind.u64.max) (wn x : Nat) = (((2 ^ 64 - 1) ^^^ wn x : Nat) : Int) :=
  bitI_xor (k := .u64) rfl (a := 2 ^ 64 - 1) (b := wn x) (by decide) (Nat.lt_of_lt_of_le (wn_lt x) (Nat.pow_le_pow_right (by decide) hm))
end Go.Fw
namespace Go.Fw
section
variable {m : Nat} (s t : St8 m)
theorem hX_at {i : Nat} (h : i < 8) : (hX i s t)[i]? = some (s.at i) := by
  match i, h with
  | 0, _ => rfl
  | 1, _ => rfl
  | 2, _ => rfl
  | 3, _ => rfl
  | 4, _ => rfl
  | 5, _ => rfl
  | 6, _ => rfl
  | 7, _ => rfl
theorem hX_set {i : Nat} (h : i < 8) : ((hX i s t).map wV).set i (.int .u64 (wn (s.at i + t.at i) : Nat)) = (hX (i + 1) s t).map wV := by
  match i, h with
  | 0, _ => rfl
  | 1, _ => rfl
  | 2, _ => rfl
  | 3, _ => rfl
  | 4, _ => rfl
  | 5, _ => rfl
  | 6, _ => rfl
  | 7, _ => rfl
theorem hX_zero : hX 0 s t = s.ws := rfl
theorem hX_eight : hX 8 s t = (s.add t).ws := rfl
@[simp] theorem hX_len (i : Nat) : (hX i s t).length = 8 := by simp [hX]
end
end Go.Fw
