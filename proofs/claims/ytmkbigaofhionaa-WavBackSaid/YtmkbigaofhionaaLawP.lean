/- What is joined is split; what is written is read: plain facts on the files of chapter 19. -/
import Derived.Test.YtmkbigaofhionaaWavY
namespace Go.Proofs.Ytmkbigaofhionaa
open Go.RowKit
set_option linter.unusedVariables false
set_option linter.unusedSimpArgs false

/-! ### Bytes one behind the other -/
theorem ext_app (a b : ByteArray) (i j : Nat) : (a ++ b).extract (a.size + i) (a.size + j) = b.extract i j := by
  apply ByteArray.ext
  simp only [ByteArray.data_extract, ByteArray.data_append, Array.extract_append]
  have e : a.size = a.data.size := rfl
  rw [e]
  rw [show a.data.extract (a.data.size + i) (a.data.size + j) = #[] by apply Array.extract_empty_of_size_le_start; omega, Array.empty_append]
  congr 1 <;> omega
theorem ext_pre (a b : ByteArray) (i j : Nat) (h : j ≤ a.size) : (a ++ b).extract i j = a.extract i j := by
  apply ByteArray.ext
  simp only [ByteArray.data_extract, ByteArray.data_append, Array.extract_append]
  have e : a.size = a.data.size := rfl
  rw [show b.data.extract (i - a.data.size) (j - a.data.size) = #[] by rw [show j - a.data.size = 0 by omega]; simp, Array.append_empty]
theorem ext_all (a : ByteArray) : a.extract 0 a.size = a := by
  apply ByteArray.ext
  simp only [ByteArray.data_extract]
  have e : a.size = a.data.size := rfl
  rw [e]; simp
theorem app_assoc (a b c : ByteArray) : a ++ b ++ c = a ++ (b ++ c) := by
  apply ByteArray.ext; simp only [ByteArray.data_append, Array.append_assoc]
theorem app_empty (a : ByteArray) : a ++ (⟨#[]⟩ : ByteArray) = a := by
  apply ByteArray.ext; simp only [ByteArray.data_append, Array.append_empty]
theorem bget_app (a b : ByteArray) (i : Nat) : bget (a ++ b) (a.size + i) = bget b i := by
  unfold bget
  have e : a.size = a.data.size := rfl
  rw [ByteArray.data_append, Array.getD_eq_getD_getElem?, Array.getD_eq_getD_getElem?, e, Array.getElem?_append_right (by omega), show a.data.size + i - a.data.size = i by omega]

/-! ### A chunk's bytes -/
def padT (m : Nat) : ByteArray := if m % 2 = 1 then ⟨#[0]⟩ else ⟨#[]⟩
theorem padT_size (m : Nat) : (padT m).size = m % 2 := by
  unfold padT
  split
  · rename_i h; rw [h]; rfl
  · have : m % 2 = 0 := by omega
    rw [this]; rfl
def pieceP (c : tCh.Val) : ByteArray := pieceF c ++ padT (ByteArray.size c.2.1)
def catF : List tCh.Val → ByteArray
  | [] => ⟨#[]⟩
  | c :: l => pieceP c ++ catF l
theorem bodyF_cat : ∀ (l : List tCh.Val) (s : ByteArray), bodyF s l = s ++ catF l
  | [], s => (app_empty s).symm
  | c :: l, s => by
    have e : (if ByteArray.size c.2.1 % 2 = 1 then (s ++ pieceF c) ++ (⟨#[0]⟩ : ByteArray) else s ++ pieceF c) = s ++ pieceP c := by
      unfold pieceP padT
      split
      · rw [app_assoc]
      · rw [app_empty]
    rw [bodyF, e, bodyF_cat l, catF, app_assoc]
def totF : List tCh.Val → Nat
  | [] => 0
  | c :: l => (8 + ByteArray.size c.2.1 + ByteArray.size c.2.1 % 2) + totF l
theorem totF_app : ∀ (l r : List tCh.Val), totF (l ++ r) = totF l + totF r
  | [], r => by simp [totF]
  | c :: l, r => by rw [List.cons_append, totF, totF, totF_app l r]; omega
theorem longF_tot : ∀ (l : List tCh.Val) (n : Nat), n ≤ 2147483647 → longF n l = if n + totF l ≤ 2147483647 then some (n + totF l) else none
  | [], n, h => by simp [longF, totF, h]
  | c :: l, n, h => by
    rw [longF, totF]
    split
    · rw [if_neg (by omega)]
    · split
      · rw [if_neg (by omega)]
      · rw [longF_tot l _ (by omega)]
        by_cases h2 : n + (8 + ByteArray.size c.2.1 + ByteArray.size c.2.1 % 2) + totF l ≤ 2147483647
        · rw [if_pos h2, if_pos (by omega)]; congr 1; omega
        · rw [if_neg h2, if_neg (by omega)]
theorem pieceF_size {c : tCh.Val} (ht : ByteArray.size c.1 = 4) (hm : ByteArray.size c.2.1 < 4294967296) : (pieceF c).size = 8 + ByteArray.size c.2.1 := by
  unfold pieceF
  rw [ByteArray.size_append, ByteArray.size_append, bytesT4 _ hm]; omega
theorem pieceP_size {c : tCh.Val} (ht : ByteArray.size c.1 = 4) (hm : ByteArray.size c.2.1 < 4294967296) : (pieceP c).size = 8 + ByteArray.size c.2.1 + ByteArray.size c.2.1 % 2 := by
  unfold pieceP
  rw [ByteArray.size_append, pieceF_size ht hm, padT_size]

theorem bget_bytesS {n W p : Nat} (big : Bool) (hp : p < W) : bget (bytesS n W big) p = byteAt n (ordP W big p) := by
  have h := byteAt_lt n (ordP W big p)
  have e : (bytesS n W big).data.getD p 0 = UInt8.ofNat (byteAt n (ordP W big p)) := by
    unfold bytesS
    simp [Array.getD, hp]
  rw [bget, e]
  simp
  omega
theorem valF_bytes (n W : Nat) (big : Bool) : ∀ k, k ≤ W → valF (bytesS n W big) W big k = n % 256 ^ k := by
  intro k
  induction k with
  | zero => intro _; simp [valF, Nat.mod_one]
  | succ k ih =>
    intro hk
    simp only [valF]
    rw [ih (by omega), bget_bytesS big (ordP_lt _ (by omega)), ordP_ordP _ (by omega), byteAt]
    have h := Nat.mod_pow_succ (b := 256) (k := k) (x := n)
    rw [h, Nat.mul_comm]
/-- A number is read as it was written. -/
theorem val_bytesT (n W : Nat) (hW : W = 2 ∨ W = 4) (hn : n < 256 ^ W) : valF (bytesT n W false) W false W = n ∧ (bytesT n W false).size = W := by
  have hw : widthB (W : Int) = true := by rcases hW with rfl | rfl <;> decide
  have e : bytesE n W = 0 := by
    unfold bytesE
    rw [if_pos hw, if_neg]
    intro h1
    have := (bitLen_pow n W (by rcases hW with rfl | rfl <;> omega)).1 (by exact_mod_cast h1)
    rw [Nat.div_eq_of_lt (by rcases hW with rfl | rfl <;> omega)] at this
    omega
  unfold bytesT
  rw [if_pos e]
  refine ⟨?_, size_bytesS _ _ _⟩
  have := valF_bytes n W false W (Nat.le_refl _)
  rw [Nat.mod_eq_of_lt hn] at this
  exact this
theorem u32_bytes (n : Nat) (hn : n < 4294967296) (r : ByteArray) : u32 (bytesT n 4 false ++ r) 0 = n := by
  obtain ⟨h1, h2⟩ := val_bytesT n 4 (.inr rfl) hn
  unfold u32
  have h2 : (bytesT n 4 false).size = 4 := h2
  rw [ext_pre _ _ _ _ (by omega), show 0 + 4 = (bytesT n 4 false).size by omega, ext_all]
  exact h1

theorem u32_app (a b : ByteArray) (i : Nat) : u32 (a ++ b) (a.size + i) = u32 b i := by
  unfold u32
  rw [show a.size + i + 4 = a.size + (i + 4) by omega, ext_app]
theorem catF_size : ∀ {l : List tCh.Val}, typesF l = true → (∀ c ∈ l, ByteArray.size c.2.1 < 4294967296) → (catF l).size = totF l
  | [], _, _ => rfl
  | c :: l, ht, hs => by
    rw [typesF, Bool.and_eq_true] at ht
    rw [catF, totF, ByteArray.size_append, pieceP_size (typeB_size ht.1) (hs c (by simp)), catF_size ht.2 (fun c hc => hs c (by simp [hc]))]

def chu (c : tCh.Val) : Chunk := (c.1, c.2.1)
theorem chu_tuC (l : List tCh.Val) : (l.map chu).map tuC = l := by
  rw [List.map_map]
  conv => rhs; rw [← List.map_id l]
  rfl
theorem chunks_file : ∀ (l : List tCh.Val) (pre : ByteArray) (f : Nat), typesF l = true → (∀ c ∈ l, ByteArray.size c.2.1 < 4294967296) → l.length < f → chunksS (pre ++ catF l) f pre.size = (l.map chu, 0)
  | [], pre, f, _, _, hf => by
    obtain ⟨f, rfl⟩ : ∃ g, f = g + 1 := ⟨f - 1, by simp at hf; omega⟩
    rw [chunksS, catF, app_empty, if_pos (Nat.le_refl _)]; rfl
  | c :: l, pre, f, ht, hs, hf => by
    obtain ⟨f, rfl⟩ : ∃ g, f = g + 1 := ⟨f - 1, by simp at hf; omega⟩
    have htt := ht
    rw [typesF, Bool.and_eq_true] at ht
    obtain ⟨hc, htl⟩ := ht
    have hm := hs c (by simp)
    obtain ⟨m, hmm⟩ : ∃ m, ByteArray.size c.2.1 = m := ⟨_, rfl⟩
    have hc4 := typeB_size hc
    have hp := pieceP_size hc4 hm
    rw [hmm] at hm hp
    have hN := bytesT4 m hm
    have hS : pre ++ catF (c :: l) = pre ++ ((c.1 : ByteArray) ++ (bytesT m 4 false ++ ((c.2.1 : ByteArray) ++ (padT m ++ catF l)))) := by
      rw [catF, pieceP, pieceF, hmm]
      simp only [app_assoc]
    have hsz : (pre ++ catF (c :: l)).size = pre.size + (8 + m + m % 2) + (catF l).size := by
      rw [catF, ByteArray.size_append, ByteArray.size_append, hp]; omega
    have e1 : (pre ++ catF (c :: l)).extract pre.size (pre.size + 4) = c.1 := by
      rw [hS, show pre.size = pre.size + 0 by omega, show pre.size + 0 + 4 = pre.size + 4 by omega, ext_app, ext_pre _ _ _ _ (by omega), show 4 = ByteArray.size c.1 by omega, ext_all]
    have e2 : u32 (pre ++ catF (c :: l)) (pre.size + 4) = m := by
      rw [hS, u32_app, show 4 = ByteArray.size c.1 + 0 by omega, u32_app, u32_bytes m hm]
    have e3 : (pre ++ catF (c :: l)).extract (pre.size + 8) (pre.size + 8 + m) = c.2.1 := by
      rw [hS, show pre.size + 8 + m = pre.size + (8 + m) by omega, ext_app, show 8 = ByteArray.size c.1 + 4 by omega, show ByteArray.size c.1 + 4 + m = ByteArray.size c.1 + (4 + m) by omega, ext_app,
        show 4 = (bytesT m 4 false).size + 0 by omega, show (bytesT m 4 false).size + 0 + m = (bytesT m 4 false).size + m by omega, ext_app, ext_pre _ _ _ _ (by omega), ← hmm, ext_all]
    have e4 : m % 2 = 1 → bget (pre ++ catF (c :: l)) (pre.size + 8 + m) = 0 := fun ho => by
      rw [hS, show pre.size + 8 + m = pre.size + (ByteArray.size c.1 + ((bytesT m 4 false).size + (ByteArray.size c.2.1 + 0))) by omega, bget_app, bget_app, bget_app, bget_app]
      unfold padT bget
      rw [if_pos ho, ByteArray.data_append, Array.getD_eq_getD_getElem?, Array.getElem?_append_left (by simp)]
      rfl
    have e5 : pre ++ catF (c :: l) = (pre ++ pieceP c) ++ catF l := by rw [catF, app_assoc]
    have e6 : (pre ++ pieceP c).size = pre.size + 8 + (m + m % 2) := by rw [ByteArray.size_append, hp]; omega
    have ih := chunks_file l (pre ++ pieceP c) f htl (fun c hc => hs c (by simp [hc])) (by simp at hf; omega)
    rw [← e5, e6] at ih
    rw [chunksS, if_neg (by omega), if_neg (by omega), e1, if_neg (by rw [hc]; decide), e2, if_neg (by omega), if_neg (fun h => h.2 (e4 h.1)), ih, if_pos rfl, e3]
    rfl

theorem long_sizes : ∀ {l : List tCh.Val} {n k : Nat}, longF k l = some n → ∀ c ∈ l, ByteArray.size c.2.1 < 4294967296
  | [], _, _, _, c, hc => by simp at hc
  | x :: l, n, k, h, c, hc => by
    obtain ⟨h1, h2, h3⟩ := longF_cons h
    rcases List.mem_cons.1 hc with rfl | hc
    · omega
    · exact long_sizes h3 c hc
theorem join_parts {form : ByteArray} {xs : List tCh.Val} (h : joinOK form xs = true) : ∃ n, longF 12 xs = some n ∧ typeB form = true ∧ typesF xs = true ∧ n = 12 + totF xs ∧ n ≤ 2147483647 := by
  unfold joinOK at h
  simp only [Bool.and_eq_true] at h
  obtain ⟨h1, h2, h3⟩ := h
  obtain ⟨n, hn⟩ := Option.isSome_iff_exists.1 h1
  have := longF_tot xs 12 (by decide)
  rw [hn] at this
  split at this
  · injection this with this
    exact ⟨n, hn, h2, h3, this, by omega⟩
  · cases this

theorem file_eq (form : ByteArray) (n : Nat) (xs : List tCh.Val) : fileF form n xs = riffT ++ (bytesT (n - 8) 4 false ++ (form ++ catF xs)) := by
  unfold fileF
  rw [bodyF_cat]
  simp only [app_assoc]
theorem head_form {B form R : ByteArray} (hB : B.size = 4) (hf : form.size = 4) : (riffT ++ (B ++ (form ++ R))).extract 8 12 = form := by
  have hr4 : riffT.size = 4 := rfl
  rw [show 8 = riffT.size + 4 by omega, show 12 = riffT.size + 8 by omega, ext_app, show 4 = B.size + 0 by omega, show 8 = B.size + 4 by omega, ext_app, ext_pre _ _ _ _ (by omega)]
  have := ext_all form
  rw [hf] at this
  exact this
theorem file_head {form : ByteArray} {xs : List tCh.Val} {n : Nat} (hn : n ≤ 2147483647) (ht : typeB form = true) : (riffT ++ (bytesT (n - 8) 4 false ++ form)).size = 12 := by
  have h4 := typeB_size ht
  have hb := bytesT4 (n - 8) (by omega)
  rw [ByteArray.size_append, ByteArray.size_append, hb, h4]; rfl
theorem file_size {form : ByteArray} {xs : List tCh.Val} {n : Nat} (h : joinOK form xs = true) (hn : longF 12 xs = some n) : (fileF form n xs).size = n := by
  obtain ⟨n', h1, h2, h3, h4, h5⟩ := join_parts h
  rw [hn] at h1; injection h1 with h1; subst h1
  have e := file_head (xs := xs) h5 h2
  rw [ByteArray.size_append, ByteArray.size_append] at e
  rw [file_eq, ByteArray.size_append, ByteArray.size_append, ByteArray.size_append, catF_size h3 (long_sizes hn)]; omega

/-- What is joined is split. -/
theorem split_file {form : ByteArray} {xs : List tCh.Val} {n : Nat} (h : joinOK form xs = true) (hn : longF 12 xs = some n) : splitS (fileF form n xs) = (form, xs.map chu, 0) := by
  obtain ⟨n', h1, h2, h3, h4, h5⟩ := join_parts h
  rw [hn] at h1; injection h1 with h1; subst h1
  have hsz := file_size h hn
  have hf4 := typeB_size h2
  have hb4 := bytesT4 (n - 8) (by omega)
  have hr4 : riffT.size = 4 := rfl
  have e1 : riffB (fileF form n xs) = true := by
    unfold riffB
    refine decide_eq_true ?_
    rw [file_eq, ext_pre _ _ _ _ (by omega)]; decide +kernel
  have e2 : (fileF form n xs).extract 8 12 = form := by
    rw [file_eq]; exact head_form hb4 hf4
  have e3 : u32 (fileF form n xs) 4 = n - 8 := by
    rw [file_eq, show 4 = riffT.size + 0 by omega, u32_app, u32_bytes (n - 8) (by omega)]
  have e4 : fileF form n xs = (riffT ++ (bytesT (n - 8) 4 false ++ form)) ++ catF xs := by rw [file_eq]; simp only [app_assoc]
  have e5 : chunksS (fileF form n xs) ((fileF form n xs).size + 1) 12 = (xs.map chu, 0) := by
    have := chunks_file xs (riffT ++ (bytesT (n - 8) 4 false ++ form)) ((fileF form n xs).size + 1) h3 (long_sizes hn) (by
      rw [hsz, h4]
      have : ∀ l : List tCh.Val, l.length ≤ totF l := fun l => by
        induction l with
        | nil => exact Nat.zero_le _
        | cons c l ih => rw [totF, List.length_cons]; omega
      have := this xs
      omega)
    rw [← e4, file_head (xs := xs) h5 h2] at this
    exact this
  unfold splitS
  rw [if_neg (by omega), if_neg (by rw [e1, e2, h2]; decide), if_neg (by omega), if_neg (by omega), e5, if_pos rfl, e2]
/-- A file that is cut short is none. -/
theorem split_cut {form : ByteArray} {xs : List tCh.Val} {n k : Nat} (h : joinOK form xs = true) (hn : longF 12 xs = some n) (hk : k < n) : (splitS ((fileF form n xs).extract 0 k)).2.2 = 2 := by
  obtain ⟨n', h1, h2, h3, h4, h5⟩ := join_parts h
  rw [hn] at h1; injection h1 with h1; subst h1
  have hsz := file_size h hn
  have hks : ((fileF form n xs).extract 0 k).size = k := by rw [ByteArray.size_extract]; omega
  by_cases hk12 : k < 12
  · exact splitS_1 (by omega)
  have hf4 := typeB_size h2
  have hb4 := bytesT4 (n - 8) (by omega)
  have hr4 : riffT.size = 4 := rfl
  have ee : ∀ i j, j ≤ k → ((fileF form n xs).extract 0 k).extract i j = (fileF form n xs).extract i j := fun i j hj => by
    rw [extract2 _ 0 k i j (by omega), Nat.zero_add, Nat.zero_add]
  have e1 : riffB ((fileF form n xs).extract 0 k) = true := by
    unfold riffB
    refine decide_eq_true ?_
    rw [ee 0 4 (by omega), file_eq, ext_pre _ _ _ _ (by omega)]; decide +kernel
  have e2 : ((fileF form n xs).extract 0 k).extract 8 12 = form := by
    rw [ee 8 12 (by omega), file_eq]; exact head_form hb4 hf4
  have e3 : u32 ((fileF form n xs).extract 0 k) 4 = n - 8 := by
    rw [u32_ext _ 0 k 4 (by omega), file_eq, show 0 + 4 = riffT.size + 0 by omega, u32_app, u32_bytes (n - 8) (by omega)]
  exact splitS_3 (by omega) e1 (by rw [e2]; exact h2) (by omega)

theorem six_parts {B0 B1 B2 B3 B4 B5 : ByteArray} (h0 : B0.size = 2) (h1 : B1.size = 2) (h2 : B2.size = 4) (h3 : B3.size = 4) (h4 : B4.size = 2) (h5 : B5.size = 2) :
    (((((B0 ++ B1) ++ B2) ++ B3) ++ B4) ++ B5).size = 16 ∧ (((((B0 ++ B1) ++ B2) ++ B3) ++ B4) ++ B5).extract 2 4 = B1 ∧ (((((B0 ++ B1) ++ B2) ++ B3) ++ B4) ++ B5).extract 4 8 = B2 ∧ (((((B0 ++ B1) ++ B2) ++ B3) ++ B4) ++ B5).extract 14 16 = B5 := by
  have e : ∀ (A B : ByteArray) (n m : Nat), A.size = n → n + B.size = m → (A ++ B).extract n m = B := fun A B n m ha hb => by
    subst ha hb
    have := ext_app A B 0 B.size
    rw [Nat.add_zero] at this
    rw [this, ext_all]
  have s1 : (B0 ++ B1).size = 4 := by rw [ByteArray.size_append]; omega
  have s2 : ((B0 ++ B1) ++ B2).size = 8 := by rw [ByteArray.size_append]; omega
  have s3 : (((B0 ++ B1) ++ B2) ++ B3).size = 12 := by rw [ByteArray.size_append]; omega
  have s4 : ((((B0 ++ B1) ++ B2) ++ B3) ++ B4).size = 14 := by rw [ByteArray.size_append]; omega
  refine ⟨by rw [ByteArray.size_append]; omega, ?_, ?_, ?_⟩
  · rw [ext_pre _ _ _ _ (by omega), ext_pre _ _ _ _ (by omega), ext_pre _ _ _ _ (by omega), ext_pre _ _ _ _ (by omega)]
    exact e B0 B1 2 4 h0 (by omega)
  · rw [ext_pre _ _ _ _ (by omega), ext_pre _ _ _ _ (by omega), ext_pre _ _ _ _ (by omega)]
    exact e _ B2 4 8 s1 (by omega)
  · exact e _ B5 14 16 s4 (by omega)

theorem val_b2 (n : Nat) (h : n < 65536) : valF (bytesT n 2 false) 2 false 2 = n ∧ (bytesT n 2 false).size = 2 := val_bytesT n 2 (.inl rfl) h
theorem val_b4 (n : Nat) (h : n < 4294967296) : valF (bytesT n 4 false) 4 false 4 = n ∧ (bytesT n 4 false).size = 4 := val_bytesT n 4 (.inr rfl) h
theorem empty_app (a : ByteArray) : (⟨#[]⟩ : ByteArray) ++ a = a := by
  apply ByteArray.ext; simp only [ByteArray.data_append, Array.empty_append]

/-- A format's numbers. -/
theorem nums_format {a b c : Int} (h : shapeB a b c = true) (t : Num3) : numsT (formatS a b c) t = (a, b, c) := by
  obtain ⟨f1, f2⟩ := shape_frame h
  have hs := of_decide_eq_true (by unfold shapeB at h; exact h)
  obtain ⟨a1, a2, b1, b2, hc⟩ := hs
  have hr : 0 ≤ b * frameF a c ∧ b * frameF a c ≤ 16777216 * 64 := ⟨Int.mul_nonneg (by omega) f1, Int.mul_le_mul (by omega) f2 f1 (by omega)⟩
  have hw : IntKind.i64.wrap (b * frameF a c) = b * frameF a c := IntWalk.i64_in _ (by omega)
  obtain ⟨v0, z0⟩ := val_b2 1 (by decide)
  obtain ⟨v1, z1⟩ := val_b2 a.toNat (by omega)
  obtain ⟨v2, z2⟩ := val_b4 b.toNat (by omega)
  obtain ⟨v3, z3⟩ := val_b4 (b * frameF a c).toNat (by omega)
  obtain ⟨v4, z4⟩ := val_b2 (frameF a c).toNat (by omega)
  obtain ⟨v5, z5⟩ := val_b2 c.toNat (by omega)
  have e : formatS a b c = (((((bytesT 1 2 false ++ bytesT a.toNat 2 false) ++ bytesT b.toNat 4 false) ++ bytesT (b * frameF a c).toNat 4 false) ++ bytesT (frameF a c).toNat 2 false) ++ bytesT c.toNat 2 false) := by
    unfold formatS partsF
    simp only [catP, hw, empty_app]
    rfl
  obtain ⟨p1, p2, p3, p4⟩ := six_parts z0 z1 z2 z3 z4 z5
  have hcnt : cntF (formatS a b c) = 6 := by unfold cntF; rw [e, p1]; rfl
  have y1 : valK (formatS a b c) 1 = a.toNat := by
    unfold valK
    rw [show atK 1 = 2 from rfl, show wdK 1 = 2 from rfl, e, p2]; exact v1
  have y2 : valK (formatS a b c) 2 = b.toNat := by
    unfold valK
    rw [show atK 2 = 4 from rfl, show wdK 2 = 4 from rfl, e, p3]; exact v2
  have y5 : valK (formatS a b c) 5 = c.toNat := by
    unfold valK
    rw [show atK 5 = 14 from rfl, show wdK 5 = 2 from rfl, e, p4]; exact v5
  unfold numsT ysF
  rw [hcnt]
  have hl : (upN 6).map (yF (formatS a b c)) = [yF (formatS a b c) 0, yF (formatS a b c) 1, yF (formatS a b c) 2, yF (formatS a b c) 3, yF (formatS a b c) 4, yF (formatS a b c) 5] := rfl
  rw [hl]
  unfold updL yF
  rw [y1, y2, y5]
  have ha : ((a.toNat : Nat) : Int) = a := by omega
  have hb : ((b.toNat : Nat) : Int) = b := by omega
  have hc' : ((c.toNat : Nat) : Int) = c := by omega
  rw [ha, hb, hc']
  rfl

def moreA (mo : Option (List tCh.Val)) (l : List tCh.Val) : Option (List tCh.Val) := match l with
  | [] => mo
  | _ :: _ => some (mo.getD [] ++ l)
theorem readF_none : ∀ {l r : List tCh.Val} {t : Num3} {d : ByteArray} {mo : Option (List tCh.Val)} {nf nd : Nat}, noneOK l = true → readF (l ++ r) t d mo nf nd = readF r t d (moreA mo l) nf nd
  | [], r, t, d, mo, nf, nd, _ => rfl
  | c :: l, r, t, d, mo, nf, nd, h => by
    simp only [noneOK, Bool.and_eq_true, Bool.not_eq_true', decide_eq_false_iff_not] at h
    rw [List.cons_append, readF, if_neg h.1.1, if_neg h.1.2, readF_none h.2]
    congr 1
    cases l with
    | nil => rfl
    | cons x l => simp [moreA]
theorem readF_fmt {a b c : Int} (h : shapeB a b c = true) {r : List tCh.Val} {t : Num3} {d : ByteArray} {mo : Option (List tCh.Val)} {nf nd : Nat} : readF ((fmtT, formatS a b c, ()) :: r) t d mo nf nd = readF r (a, b, c) d mo (nf + 1) nd := by
  have hn := nums_format h t
  rw [readF, if_pos (show ((fmtT, formatS a b c, ()) : tCh.Val).1 = fmtT from rfl), if_pos]
  · change readF r (numsT (formatS a b c) t) d mo (nf + 1) nd = _
    rw [hn]
  · unfold fmtOK
    simp only
    rw [hn, h, decide_eq_true rfl]; rfl
theorem readF_data {a b c : Int} {d : ByteArray} (h : (d.size : Int).tmod (frameF a c) = 0) {r : List tCh.Val} {d0 : ByteArray} {mo : Option (List tCh.Val)} {nd : Nat} : readF ((datT, d, ()) :: r) (a, b, c) d0 mo 1 nd = readF r (a, b, c) d mo 1 (nd + 1) := by
  rw [readF, if_neg (show ¬ ((datT, d, ()) : tCh.Val).1 = fmtT by change ¬ datT = fmtT; decide), if_pos (show ((datT, d, ()) : tCh.Val).1 = datT from rfl), if_pos ⟨rfl, h⟩]

theorem may_parts {a b c : Int} {d : ByteArray} {xs : List tCh.Val} (h : mayB a b c d xs = true) : shapeB a b c = true ∧ (d.size : Int).tmod (frameF a c) = 0 ∧ typesF xs = true ∧ noneOK xs = true ∧ joinOK waveT (allF a b c d xs) = true := by
  have hj := (may_join h).2
  unfold mayB at h
  rw [moreOK_eq] at h
  simp only [Bool.and_eq_true, decide_eq_true_eq] at h
  exact ⟨h.1.1, h.1.2.1, h.2.1, h.2.2, hj⟩
/-- A file's sound. -/
theorem read_file {form : ByteArray} {xs : List tCh.Val} {n : Nat} (h : joinOK form xs = true) (hn : longF 12 xs = some n) (hf : form = waveT) {t : Num3} {d : ByteArray} {mo : Option (List tCh.Val)}
    (hr : readF xs (0, 0, 0) ⟨#[]⟩ none 0 0 = some (t, d, mo, 1, 1)) : readS (fileF form n xs) = (0, t, d, mo) := by
  have hs := split_file h hn
  have h1 : (splitS (fileF form n xs)).2.2 = 0 := by rw [hs]
  have h2 := readS_3 (nf := 1) (nd := 1) h1 (by rw [hs]; simp only; rw [chu_tuC]; exact hr)
  rw [h2, if_pos ⟨by rw [hs]; exact hf, rfl, rfl⟩]
theorem read_write {a b c : Int} {d : ByteArray} {xs : List tCh.Val} {n : Nat} (h : mayB a b c d xs = true) (hn : longF 12 (allF a b c d xs) = some n) : readS (fileF waveT n (allF a b c d xs)) = (0, (a, b, c), d, moreA none xs) := by
  obtain ⟨h1, h2, h3, h4, h5⟩ := may_parts h
  refine read_file h5 hn rfl ?_
  unfold allF
  rw [readF_fmt h1, readF_data h2]
  have := readF_none (l := xs) (r := []) (t := (a, b, c)) (d := d) (mo := none) (nf := 1) (nd := 1) h4
  rw [List.append_nil] at this
  rw [this]; rfl
theorem moreA_getD (xs : List tCh.Val) : (moreA none xs).getD [] = xs := by cases xs <;> rfl
theorem moreA_isNone (xs : List tCh.Val) : (moreA none xs).isNone = true → xs = [] := by cases xs <;> simp [moreA]
/-- Other chunks ahead of the format, and between it and the data. -/
def turnF (a b c : Int) (d : ByteArray) (xs : List tCh.Val) (k : Nat) : List tCh.Val := xs.take k ++ ((fmtT, formatS a b c, ()) :: (xs.drop k ++ [(datT, d, ())]))
theorem tot_turn {a b c : Int} {d : ByteArray} {xs : List tCh.Val} {k : Nat} : totF (turnF a b c d xs k) = totF (allF a b c d xs) := by
  have h := totF_app (xs.take k) (xs.drop k)
  rw [List.take_append_drop] at h
  have e1 : totF (turnF a b c d xs k) = totF (xs.take k) + totF ((fmtT, formatS a b c, ()) :: (xs.drop k ++ [(datT, d, ())])) := totF_app _ _
  have e2 : totF ((fmtT, formatS a b c, ()) :: (xs.drop k ++ [(datT, d, ())])) = (8 + (formatS a b c).size + (formatS a b c).size % 2) + totF (xs.drop k ++ [(datT, d, ())]) := rfl
  have e3 := totF_app (xs.drop k) [(datT, d, ())]
  have e4 : totF [((datT, d, ()) : tCh.Val)] = (8 + d.size + d.size % 2) + 0 := rfl
  have e5 : totF (allF a b c d xs) = (8 + (formatS a b c).size + (formatS a b c).size % 2) + ((8 + d.size + d.size % 2) + totF xs) := rfl
  omega
theorem types_app : ∀ l r : List tCh.Val, typesF (l ++ r) = (typesF l && typesF r)
  | [], r => rfl
  | c :: l, r => by
    change (typeB c.1 && typesF (l ++ r)) = ((typeB c.1 && typesF l) && typesF r)
    rw [types_app l r, Bool.and_assoc]
theorem none_app : ∀ l r : List tCh.Val, noneOK (l ++ r) = (noneOK l && noneOK r)
  | [], r => rfl
  | c :: l, r => by
    change ((!decide ((c.1 : ByteArray) = fmtT) && !decide ((c.1 : ByteArray) = datT)) && noneOK (l ++ r)) = (((!decide ((c.1 : ByteArray) = fmtT) && !decide ((c.1 : ByteArray) = datT)) && noneOK l) && noneOK r)
    rw [none_app l r]
    cases decide ((c.1 : ByteArray) = fmtT) <;> cases decide ((c.1 : ByteArray) = datT) <;> rfl
theorem turn_join {a b c : Int} {d : ByteArray} {xs : List tCh.Val} {k : Nat} (h : mayB a b c d xs = true) : joinOK waveT (turnF a b c d xs k) = true ∧ longF 12 (turnF a b c d xs k) = longF 12 (allF a b c d xs) := by
  obtain ⟨h1, h2, h3, h4, h5⟩ := may_parts h
  have e : longF 12 (turnF a b c d xs k) = longF 12 (allF a b c d xs) := by
    rw [longF_tot _ _ (by decide), longF_tot _ _ (by decide), tot_turn]
  refine ⟨?_, e⟩
  unfold joinOK at h5 ⊢
  simp only [Bool.and_eq_true] at h5 ⊢
  refine ⟨by rw [e]; exact h5.1, h5.2.1, ?_⟩
  unfold turnF
  have ht : typesF (xs.take k ++ xs.drop k) = true := by rw [List.take_append_drop]; exact h3
  rw [types_app, Bool.and_eq_true] at ht
  rw [types_app, typesF, types_app, ht.1, ht.2]
  change (true && (typeB fmtT && (true && (typeB datT && true)))) = true
  decide +kernel
theorem read_turn {a b c : Int} {d : ByteArray} {xs : List tCh.Val} {n k : Nat} (h : mayB a b c d xs = true) (hn : longF 12 (turnF a b c d xs k) = some n) : ∃ mo, readS (fileF waveT n (turnF a b c d xs k)) = (0, (a, b, c), d, mo) ∧ mo.getD [] = xs := by
  obtain ⟨h1, h2, h3, h4, h5⟩ := may_parts h
  have ht : noneOK (xs.take k ++ xs.drop k) = true := by rw [List.take_append_drop]; exact h4
  rw [none_app, Bool.and_eq_true] at ht
  refine ⟨_, read_file (turn_join h).1 hn rfl (t := (a, b, c)) (d := d) (mo := moreA (moreA none (xs.take k)) (xs.drop k)) ?_, ?_⟩
  · unfold turnF
    rw [readF_none ht.1, readF_fmt h1, readF_none ht.2, readF_data h2]; rfl
  · have : ∀ l r : List tCh.Val, (moreA (moreA none l) r).getD [] = l ++ r := fun l r => by
      cases l <;> cases r <;> simp [moreA]
    rw [this, List.take_append_drop]
theorem format_size {a b c : Int} (h : shapeB a b c = true) : (formatS a b c).size = 16 := by
  obtain ⟨f1, f2⟩ := shape_frame h
  have hs := of_decide_eq_true (by unfold shapeB at h; exact h)
  obtain ⟨a1, a2, b1, b2, hc⟩ := hs
  have hr : 0 ≤ b * frameF a c ∧ b * frameF a c ≤ 16777216 * 64 := ⟨Int.mul_nonneg (by omega) f1, Int.mul_le_mul (by omega) f2 f1 (by omega)⟩
  have hw : IntKind.i64.wrap (b * frameF a c) = b * frameF a c := IntWalk.i64_in _ (by omega)
  have e : formatS a b c = (((((bytesT 1 2 false ++ bytesT a.toNat 2 false) ++ bytesT b.toNat 4 false) ++ bytesT (b * frameF a c).toNat 4 false) ++ bytesT (frameF a c).toNat 2 false) ++ bytesT c.toNat 2 false) := by
    unfold formatS partsF
    simp only [catP, hw, empty_app]
    rfl
  rw [e]
  exact (six_parts (val_b2 1 (by decide)).2 (val_b2 a.toNat (by omega)).2 (val_b4 b.toNat (by omega)).2 (val_b4 (b * frameF a c).toNat (by omega)).2 (val_b2 (frameF a c).toNat (by omega)).2 (val_b2 c.toNat (by omega)).2).1
theorem small_len {xs : List tCh.Val} (h : smallS xs = true) : xs.length ≤ 40 ∧ totF xs ≤ xs.length * 5009 := by
  unfold smallS at h
  simp only [Bool.and_eq_true, decide_eq_true_eq] at h
  refine ⟨h.1, ?_⟩
  have : ∀ l : List tCh.Val, smallF l = true → totF l ≤ l.length * 5009 := fun l => by
    induction l with
    | nil => intro _; exact Nat.zero_le _
    | cons c l ih =>
      intro hl
      simp only [smallF, Bool.and_eq_true, decide_eq_true_eq] at hl
      have := ih hl.2
      rw [totF, List.length_cons]
      have := hl.1
      omega
  exact this xs h.2
/-- A sound's file is not great. -/
theorem write_size {a b c : Int} {d : ByteArray} {xs : List tCh.Val} {n : Nat} (h : mayB a b c d xs = true) (hn : longF 12 (allF a b c d xs) = some n) (hs : smallS xs = true) (hd : d.size ≤ 20000) : n ≤ 300000 := by
  obtain ⟨h1, h2, h3, h4, h5⟩ := may_parts h
  obtain ⟨n', k1, k2, k3, k4, k5⟩ := join_parts h5
  rw [hn] at k1; injection k1 with k1; subst k1
  obtain ⟨s1, s2⟩ := small_len hs
  have e5 : totF (allF a b c d xs) = (8 + (formatS a b c).size + (formatS a b c).size % 2) + ((8 + d.size + d.size % 2) + totF xs) := rfl
  have := format_size h1
  have : xs.length * 5009 ≤ 40 * 5009 := Nat.mul_le_mul_right _ s1
  omega
end Go.Proofs.Ytmkbigaofhionaa
