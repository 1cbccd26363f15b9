/-
  Words of so many bits, as numbers in cells; a digest's rounds.
-/
import Derived.Test.YtjehncilahjmdaaN2
set_option linter.unusedSimpArgs false
set_option linter.unnecessarySimpa false
set_option linter.unusedVariables false
set_option linter.unusedSectionVars false
namespace Go.Fw
/-! ### Words -/
/-- A word as a number. -/
def wn {m : Nat} (x : BitVec m) : Nat := x.toNat
section
variable {m : Nat}
theorem wx_xor {K : IntKind} (hK : K.signed = false) (hm : m ≤ K.bits) (x y : BitVec m) : bitI .xor K (wn x : Nat) (wn y : Nat) = (wn (x ^^^ y) : Nat) := by
  simp only [wn]
  have e := Nat.pow_le_pow_right (n := 2) (by decide) hm
  rw [bitI_xor hK (Nat.lt_of_lt_of_le x.isLt e) (Nat.lt_of_lt_of_le y.isLt e), BitVec.toNat_xor]
theorem wx_shr (x : BitVec m) (s : Nat) : ((wn x : Nat) : Int).fdiv (2 ^ s) = (wn (x >>> s) : Nat) := by
  simp only [wn]
  rw [shr_nat, BitVec.toNat_ushiftRight, Nat.shiftRight_eq_div_pow]
end
theorem wx_not32 (x : BitVec 32) : bitI .xor .u32 (if IntKind.u32.signed then -1 else IntKind.u32.max) (wn x : Nat) = (wn (~~~x) : Nat) := by
  have e : (if IntKind.u32.signed then -1 else IntKind.u32.max) = ((wn (BitVec.allOnes 32) : Nat) : Int) := rfl
  have h := wx_xor (K := .u32) rfl (by decide) (BitVec.allOnes 32) x
  rw [BitVec.allOnes_xor] at h
  rw [e]; exact h
/-! ### The digest -/
structure St8 (m : Nat) where
  a : BitVec m
  b : BitVec m
  c : BitVec m
  d : BitVec m
  e : BitVec m
  f : BitVec m
  g : BitVec m
  h : BitVec m
def St8.at {m : Nat} (s : St8 m) : Nat → BitVec m
  | 0 => s.a
  | 1 => s.b
  | 2 => s.c
  | 3 => s.d
  | 4 => s.e
  | 5 => s.f
  | 6 => s.g
  | _ => s.h
def St8.cells {m : Nat} (K : IntKind) (s : St8 m) : List AV := [.int K (wn s.a : Nat), .int K (wn s.b : Nat), .int K (wn s.c : Nat), .int K (wn s.d : Nat), .int K (wn s.e : Nat), .int K (wn s.f : Nat), .int K (wn s.g : Nat), .int K (wn s.h : Nat)]
/-- A digest's form: how far words are turned, how many rounds, their constants, the state at first. -/
structure Sha (m : Nat) where
  R : Nat
  A : Nat × Nat × Nat
  E : Nat × Nat × Nat
  s0 : Nat × Nat × Nat
  s1 : Nat × Nat × Nat
  k : Nat → BitVec m
  h0 : St8 m
section
variable {m : Nat}
def bigT (t : Nat × Nat × Nat) (x : BitVec m) : BitVec m := x.rotateRight t.1 ^^^ x.rotateRight t.2.1 ^^^ x.rotateRight t.2.2
def smallT (t : Nat × Nat × Nat) (x : BitVec m) : BitVec m := x.rotateRight t.1 ^^^ x.rotateRight t.2.1 ^^^ (x >>> t.2.2)
/-- The number of bytes, the highest first. -/
def beN (l : List UInt8) : Nat := l.foldl (fun x b => x * 256 + b.toNat) 0
variable (F : Sha m)
def nextW (blk : List UInt8) (l : List (BitVec m)) (i : Nat) : BitVec m :=
  if i < 16 then BitVec.ofNat m (beN ((blk.drop (m / 8 * i)).take (m / 8)))
  else l.getD (i - 16) 0 + smallT F.s0 (l.getD (i - 15) 0) + l.getD (i - 7) 0 + smallT F.s1 (l.getD (i - 2) 0)
/-- The words of a block, so many of them. -/
def wL (blk : List UInt8) : Nat → List (BitVec m)
  | 0 => []
  | i + 1 => wL blk i ++ [nextW F blk (wL blk i) i]
def rnd (k w : BitVec m) (s : St8 m) : St8 m :=
  let t := s.h + bigT F.E s.e + ((s.e &&& s.f) ^^^ (~~~s.e &&& s.g)) + k + w
  ⟨t + bigT F.A s.a + ((s.a &&& s.b) ^^^ (s.a &&& s.c) ^^^ (s.b &&& s.c)), s.a, s.b, s.c, s.d + t, s.e, s.f, s.g⟩
/-- The state behind so many rounds. -/
def rnds (ws : List (BitVec m)) (s : St8 m) : Nat → St8 m
  | 0 => s
  | i + 1 => rnd F (F.k i) (ws.getD i 0) (rnds ws s i)
def St8.add (s t : St8 m) : St8 m := ⟨s.a + t.a, s.b + t.b, s.c + t.c, s.d + t.d, s.e + t.e, s.f + t.f, s.g + t.g, s.h + t.h⟩
def comp (s : St8 m) (blk : List UInt8) : St8 m := s.add (rnds F (wL F blk F.R) s F.R)
/-- The state behind so many blocks. -/
def runB : Nat → St8 m → List UInt8 → St8 m
  | 0, s, _ => s
  | n + 1, s, l => runB n (comp F s (l.take (2 * m))) (l.drop (2 * m))
/-- A byte of a state. -/
def dgN (s : St8 m) : Nat → Nat := fun p => wn (s.at (p / (m / 8))) / 2 ^ (m - 8 - 8 * (p % (m / 8))) % 256
def dgB (s : St8 m) : List UInt8 := (List.range m).map fun p => UInt8.ofNat (dgN s p)
/-- The state behind bytes. -/
def hst (s : List UInt8) : St8 m := runB F (s.length / (2 * m)) F.h0 s
end
/-- The constants. -/
def shaW : List Nat := [4794697086780616226, 8158064640168781261, 13096744586834688815, 16840607885511220156, 4131703408338449720, 6480981068601479193, 10538285296894168987, 12329834152419229976, 15566598209576043074, 1334009975649890238, 2608012711638119052, 6128411473006802146, 8268148722764581231, 9286055187155687089, 11230858885718282805, 13951009754708518548, 16472876342353939154, 17275323862435702243, 1135362057144423861, 2597628984639134821, 3308224258029322869, 5365058923640841347, 6679025012923562964, 8573033837759648693, 10970295158949994411, 12119686244451234320, 12683024718118986047, 13788192230050041572, 14330467153632333762, 15395433587784984357, 489312712824947311, 1452737877330783856, 2861767655752347644, 3322285676063803686, 5560940570517711597, 5996557281743188959, 7280758554555802590, 8532644243296465576, 9350256976987008742, 10552545826968843579, 11727347734174303076, 12113106623233404929, 14000437183269869457, 14369950271660146224, 15101387698204529176, 15463397548674623760, 17586052441742319658, 1182934255886127544, 1847814050463011016, 2177327727835720531, 2830643537854262169, 3796741975233480872, 4115178125766777443, 5681478168544905931, 6601373596472566643, 7507060721942968483, 8399075790359081724, 8693463985226723168, 9568029438360202098, 10144078919501101548, 10430055236837252648, 11840083180663258601, 13761210420658862357, 14299343276471374635, 14566680578165727644, 15097957966210449927, 16922976911328602910, 17689382322260857208, 500013540394364858, 748580250866718886, 1242879168328830382, 1977374033974150939, 2944078676154940804, 3659926193048069267, 4368137639120453308, 4836135668995329356, 5532061633213252278, 6448918945643986474, 6902733635092675308, 7801388544844847127]
def shaS : List Nat := [7640891576956012808, 13503953896175478587, 4354685564936845355, 11912009170470909681, 5840696475078001361, 11170449401992604703, 2270897969802886507, 6620516959819538809]
theorem wrap_b32 (b : UInt8) : IntKind.u32.wrap (b.toNat : Nat) = (b.toNat : Nat) := by rw [wrapu32]; have := b.toNat_lt; congr 1; omega
/-- Cells of a hash: its state, what is left, how many bytes it took. -/
def hC {m : Nat} (K : IntKind) (s : St8 m) (j o l n : Nat) : List AV := [.int K (wn s.a : Nat), .int K (wn s.b : Nat), .int K (wn s.c : Nat), .int K (wn s.d : Nat), .int K (wn s.e : Nat), .int K (wn s.f : Nat), .int K (wn s.g : Nat), .int K (wn s.h : Nat), .slice 1 j o l none, .int .u64 (n : Nat)]
/-- The first words of a sum, others behind them. -/
def hM {m : Nat} (K : IntKind) (i : Nat) (s t : St8 m) (o l n : Nat) : List AV := [.int K (if 0 < i then wn (s.a + t.a) else wn s.a : Nat), .int K (if 1 < i then wn (s.b + t.b) else wn s.b : Nat), .int K (if 2 < i then wn (s.c + t.c) else wn s.c : Nat), .int K (if 3 < i then wn (s.d + t.d) else wn s.d : Nat), .int K (if 4 < i then wn (s.e + t.e) else wn s.e : Nat), .int K (if 5 < i then wn (s.f + t.f) else wn s.f : Nat), .int K (if 6 < i then wn (s.g + t.g) else wn s.g : Nat), .int K (if 7 < i then wn (s.h + t.h) else wn s.h : Nat), .slice 1 1 o l none, .int .u64 (n : Nat)]
/-- So many zeros are put in. -/
def zN (B T r : Nat) : Nat := (T + B - (r + 1) % B) % B
def be8 (x : Nat) : List UInt8 := (List.range 8).map fun i => UInt8.ofNat (x / 2 ^ (56 - 8 * i))
/-- What is put behind so many bytes. -/
def tailB (m n : Nat) : List UInt8 := (128 :: List.replicate (zN (2 * m) (14 * (m / 8)) (n % (2 * m))) 0) ++ (if m = 64 then List.replicate 8 0 else []) ++ be8 (8 * n)
/-- The digest of bytes. -/
def dgst {m : Nat} (F : Sha m) (st : List UInt8) : List UInt8 := dgB (hst F (st ++ tailB m st.length))
@[simp] theorem idsL_repI (q : Nat → Bool) (k : Nat) (K : IntKind) (n : Int) : idsL q (List.replicate k (.int K n)) = true := idsL_rep k _ (by simp [AV.ids])
@[simp] theorem ltL_repI (n : Nat) (k : Nat) (K : IntKind) (i : Int) : ltL n (List.replicate k (.int K i)) = true := ltL_rep n k _ (by simp [AV.ltI])
@[simp] theorem cleanL_repI (k : Nat) (K : IntKind) (i : Int) : cleanL (List.replicate k (.int K i)) = true := cleanL_rep k _ (by simp [AV.clean])
@[simp] theorem subL_repI (s : Nat → Nat → Nat → Nat → Option Nat → AV) (p : Nat → Nat → AV) (k : Nat) (K : IntKind) (i : Int) : subL s p (List.replicate k (.int K i)) = List.replicate k (.int K i) := subL_rep k _ (by simp [AV.sub])
@[simp] theorem ltL_cells {m : Nat} (n : Nat) (K : IntKind) (s : St8 m) : ltL n (s.cells K) = true := by simp [St8.cells, ltL, AV.ltI]
@[simp] theorem idsL_cells {m : Nat} (q : Nat → Bool) (K : IntKind) (s : St8 m) : idsL q (s.cells K) = true := by simp [St8.cells, idsL, AV.ids]
@[simp] theorem cleanL_cells {m : Nat} (K : IntKind) (s : St8 m) : cleanL (s.cells K) = true := by simp [St8.cells, cleanL, AV.clean]
@[simp] theorem cells_length {m : Nat} (K : IntKind) (s : St8 m) : (s.cells K).length = 8 := by simp [St8.cells]
instance : Inhabited Md := ⟨⟨false, false, false⟩⟩
/-- Lists of bytes in cells, with what is told of each. -/
def lsV (x : Md × List UInt8) : AV := .list 1 x.1 (x.2.map bv)
@[simp] theorem ltL_lsV (n : Nat) (l : List (Md × List UInt8)) : ltL n (l.map lsV) = true := ltL_map _ fun x => by simp [lsV, AV.ltI, ltL_bv]
@[simp] theorem idsL_lsV (q : Nat → Bool) (l : List (Md × List UInt8)) : idsL q (l.map lsV) = true := idsL_map _ fun x => by simp [lsV, AV.ids, idsL_bv]
@[simp] theorem subL_lsV (s : Nat → Nat → Nat → Nat → Option Nat → AV) (p : Nat → Nat → AV) (l : List (Md × List UInt8)) : subL s p (l.map lsV) = l.map lsV := subL_map _ fun x => by simp [lsV, AV.sub, subL_bv]
/-- All bytes of lists. -/
def allB (l : List (Md × List UInt8)) : List UInt8 := l.flatMap (·.2)
theorem allB_take (l : List (Md × List UInt8)) (i : Nat) (h : i < l.length) : allB (l.take (i + 1)) = allB (l.take i) ++ l[i].2 := by
  simp only [allB]
  rw [List.take_succ_eq_append_getElem h, List.flatMap_append]
  simp
theorem allB_le (l : List (Md × List UInt8)) (i : Nat) : (allB (l.take i)).length ≤ (allB l).length := by
  have e : allB l = allB (l.take i) ++ allB (l.drop i) := by
    simp only [allB]
    rw [← List.flatMap_append, List.take_append_drop]
  rw [e, List.length_append]; omega
@[simp] theorem dgst_len {m : Nat} (F : Sha m) (st : List UInt8) : (dgst F st).length = m := by simp [dgst, dgB]
end Go.Fw
namespace Go.Fw
/-! ### The document's digest -/
section
variable {m : Nat}
theorem wn_lt (x : BitVec m) : wn x < 2 ^ m := x.isLt
end
end Go.Fw
namespace Go.Fw
section
variable {m : Nat}
/-- What the code has of a form. -/
structure OkF (F : Sha m) : Prop where
  R : F.R ≤ 80
  A : (0 < F.A.1 ∧ F.A.1 < m) ∧ (0 < F.A.2.1 ∧ F.A.2.1 < m) ∧ (0 < F.A.2.2 ∧ F.A.2.2 < m)
  E : (0 < F.E.1 ∧ F.E.1 < m) ∧ (0 < F.E.2.1 ∧ F.E.2.1 < m) ∧ (0 < F.E.2.2 ∧ F.E.2.2 < m)
  s0 : (0 < F.s0.1 ∧ F.s0.1 < m) ∧ (0 < F.s0.2.1 ∧ F.s0.2.1 < m) ∧ F.s0.2.2 < m
  s1 : (0 < F.s1.1 ∧ F.s1.1 < m) ∧ (0 < F.s1.2.1 ∧ F.s1.2.1 < m) ∧ F.s1.2.2 < m
  k : ∀ i, i < F.R → shaW.getD i 0 / 2 ^ (64 - m) = wn (F.k i)
  h0 : ∀ i, i < 8 → shaS.getD i 0 / 2 ^ (64 - m) = wn (F.h0.at i)
def wV (x : BitVec m) : AV := .int .u64 (wn x : Nat)
section
variable (l : List (BitVec m))
@[simp] theorem cleanL_wV : cleanL (l.map wV) = true := cleanL_map _ fun x => by simp [wV, AV.clean]
@[simp] theorem ltL_wV (n : Nat) : ltL n (l.map wV) = true := ltL_map _ fun x => by simp [wV, AV.ltI]
@[simp] theorem idsL_wV (q : Nat → Bool) : idsL q (l.map wV) = true := idsL_map _ fun x => by simp [wV, AV.ids]
@[simp] theorem subL_wV (s : Nat → Nat → Nat → Nat → Option Nat → AV) (p : Nat → Nat → AV) : subL s p (l.map wV) = l.map wV := subL_map _ fun x => by simp [wV, AV.sub]
end
def St8.ws (s : St8 m) : List (BitVec m) := [s.a, s.b, s.c, s.d, s.e, s.f, s.g, s.h]
/-- The first words of a sum, others behind them. -/
def hX (i : Nat) (s t : St8 m) : List (BitVec m) := [if 0 < i then s.a + t.a else s.a, if 1 < i then s.b + t.b else s.b, if 2 < i then s.c + t.c else s.c, if 3 < i then s.d + t.d else s.d, if 4 < i then s.e + t.e else s.e, if 5 < i then s.f + t.f else s.f, if 6 < i then s.g + t.g else s.g, if 7 < i then s.h + t.h else s.h]
end
end Go.Fw
namespace Go.Fw
section
variable {m : Nat}
@[simp] theorem ws_len (s : St8 m) : s.ws.length = 8 := by simp [St8.ws]
end
end Go.Fw
namespace Go.Fw
section
variable {P : Program} {L : Nat} {k : List It} {e : Env} {H : Heap} {Q : Post} {v : Option AV} {t : Nat} {ca cb : KCode}
/-- Where ways meet: the end is told. -/
theorem WC_joinQ (e1 : Env) (H1 : Heap) {c : KCode} (h1 : W P L (.c c :: k) e1 H1 Q) (h2 : ∀ k', W P L k' e1 H1 Q → WC P L v t ca cb e H k' Q) : WC P L v t ca cb e H (.c c :: k) Q := h2 _ h1
end
end Go.Fw
namespace Go.Fw
end Go.Fw
namespace Go.Fw
section
variable {m : Nat} (s t : St8 m)
@[simp] theorem hX_len (i : Nat) : (hX i s t).length = 8 := by simp [hX]
end
end Go.Fw
