/- An abstract interpreter over the program's form, with the proof that it is sound: part Ee. Own work. It holds for any program that the model takes. -/
import Derived.Test.YtffoncjofjgojaaGreatDoorEd
set_option linter.all false
/-! part AvSimp2 -/
namespace Go.Av
open Go.RowKit

section
variable {P : Program} {Q : Exit → AS → Prop} {k : AV → Prop} {st : AS}

@[simp] theorem bs_mk' (l : List UInt8) : bs (ByteArray.mk l.toArray) = l := (rfl)

@[simp] theorem pick_t {x y : AV} : pickW k x y (.p (.sc (.bool true))) = k x := by simp [pickW]
@[simp] theorem pick_f {x y : AV} : pickW k x y (.p (.sc (.bool false))) = k y := by simp [pickW]
@[simp] theorem box_p {y : PC} : boxW k (.p y) = k (.p (.ref y)) := (rfl)

/-! widths and fits -/
@[simp] theorem width_sc {v : Value} : PC.width (.sc v) = 1 := (rfl)
@[simp] theorem width_agg {xs : List PC} : PC.width (.agg false xs) = xs.length := (rfl)
@[simp] theorem fits_sc {t : TypeId} {v : Value} : fits P t (.sc v) = (tyAgg P t == some false) := (rfl)
@[simp] theorem fits_sl {t : TypeId} {v : List PC} : fits P t (.sl v) = (tyAgg P t == some false) := (rfl)
@[simp] theorem fits_agg {t : TypeId} {xs : List PC} : fits P t (.agg false xs) = (tyAgg P t == some true && tySize P t == some xs.length) := (rfl)
def loadG (k : AV → Prop) (y : PC) (b : Bool) : Prop := b = true ∧ k (.p y)
@[congr] theorem loadG_congr {y : PC} {b c : Bool} (h : b = c) : loadG k y b = loadG k y c := by rw [h]
@[simp] theorem load_ref {t : TypeId} {y : PC} : loadW P t k (.p (.ref y)) = loadG k y (fits P t y) := (rfl)
@[simp] theorem loadG_t {y : PC} : loadG k y true = k (.p y) := by simp [loadG]

/-! fields -/
def faA (k : AV → Prop) (xs : List PC) : Option (Nat × Nat × Bool) → Prop
  | some (off, s, a) => match part off s a xs with
      | some y => s ≠ 0 ∧ k (.p (.ref y))
      | none => False
  | none => False
def faB (k : AV → Prop) (s : Nat) : Option PC → Prop
  | some y => s ≠ 0 ∧ k (.p (.ref y))
  | none => False
@[congr] theorem faA_congr {xs ys : List PC} {f g : Option (Nat × Nat × Bool)} (h : xs = ys) (h2 : f = g) : faA k xs f = faA k ys g := by rw [h, h2]
@[congr] theorem faB_congr {s : Nat} {f g : Option PC} (h2 : f = g) : faB k s f = faB k s g := by rw [h2]
@[simp] theorem fieldAddr_ref {t : TypeId} {i : Nat} {xs : List PC} : fieldAddrW P t i k (.p (.ref (.agg false xs))) = faA k xs (fld P t i) := (rfl)
@[simp] theorem faA_some {xs : List PC} {off s : Nat} {a : Bool} : faA k xs (some (off, s, a)) = faB k s (part off s a xs) := (rfl)
@[simp] theorem faB_some {s : Nat} {y : PC} : faB k (s + 1) (some y) = k (.p (.ref y)) := by simp [faB]
def fiA (k : AV → Prop) (xs : List PC) : Option (Nat × Nat × Bool) → Prop
  | some (off, s, a) => match part off s a xs with
      | some y => k (.p y)
      | none => False
  | none => False
def opt1 (k : AV → Prop) : Option PC → Prop
  | some y => k (.p y)
  | none => False
@[congr] theorem fiA_congr {xs ys : List PC} {f g : Option (Nat × Nat × Bool)} (h : xs = ys) (h2 : f = g) : fiA k xs f = fiA k ys g := by rw [h, h2]
@[congr] theorem opt1_congr {f g : Option PC} (h2 : f = g) : opt1 k f = opt1 k g := by rw [h2]
@[simp] theorem field_agg {t : TypeId} {i : Nat} {xs : List PC} : fieldW P t i k (.p (.agg false xs)) = fiA k xs (fld P t i) := (rfl)
@[simp] theorem fiA_some {xs : List PC} {off s : Nat} {a : Bool} : fiA k xs (some (off, s, a)) = opt1 k (part off s a xs) := (rfl)
@[simp] theorem opt1_some {y : PC} : opt1 k (some y) = k (.p y) := (rfl)
@[simp] theorem part_one {off : Nat} {xs : List PC} : part off 1 false xs = xs[off]? := (rfl)
@[simp] theorem part_agg {off s : Nat} {xs : List PC} : part off s true xs = if off + s ≤ xs.length then some (.agg false ((xs.drop off).take s)) else none := (rfl)

/-! elements -/
def iaA (P : Program) (t : TypeId) (k : AV → Prop) (n : Int) : Option PC → Prop
  | some y => 0 ≤ n ∧ elSize P t = some y.width ∧ k (.p (.ref y))
  | none => False
@[congr] theorem iaA_congr {t : TypeId} {n : Int} {f g : Option PC} (h2 : f = g) : iaA P t k n f = iaA P t k n g := by rw [h2]
@[simp] theorem indexAddr_sl {t : TypeId} {xs : List PC} {c : IntKind} {n : Int} : indexAddrW P t k (.p (.sl xs)) (.p (.sc (.int c n))) = iaA P t k n (xs[n.toNat]?) := by
  cases hz : xs[n.toNat]? <;> simp only [indexAddrW, iaA, hz, and_false]
@[simp] theorem iaA_some {t : TypeId} {n : Int} {y : PC} (h0 : 0 ≤ n) (h : elSize P t = some y.width) : iaA P t k n (some y) = k (.p (.ref y)) := by simp [iaA, h0, h]
def ixR (k : AV → Prop) (xs : List PC) (n : Int) : Option (Nat × Nat × Bool) → Prop
  | some (m, s, a) => 0 ≤ n ∧ n < (m : Int) ∧ opt1 k (part (n.toNat * s) s a xs)
  | none => False
@[congr] theorem ixR_congr {xs : List PC} {n : Int} {f g : Option (Nat × Nat × Bool)} (h2 : f = g) : ixR k xs n f = ixR k xs n g := by rw [h2]
@[simp] theorem index_agg {t : TypeId} {xs : List PC} {c : IntKind} {n : Int} : indexW P t k (.p (.agg false xs)) (.p (.sc (.int c n))) = ixR k xs n (arrEl P t) := by
  simp only [indexW, ixR]
  cases arrEl P t with
  | none => rfl
  | some x =>
    obtain ⟨m, s, a⟩ := x
    simp only
    cases part (n.toNat * s) s a xs <;> rfl
@[simp] theorem ixR_some {xs : List PC} {n : Int} {m s : Nat} {a : Bool} (h0 : 0 ≤ n) (h1 : n < (m : Int)) : ixR k xs n (some (m, s, a)) = opt1 k (part (n.toNat * s) s a xs) := by simp [ixR, h0, h1]
def ixA (P : Program) (t : TypeId) (k : AV → Prop) (n : Int) : Option UInt8 → Prop
  | some c => 0 ≤ n ∧ isStr P t = true ∧ k (.p (.sc (.int .u8 c.toNat)))
  | none => False
@[congr] theorem ixA_congr {t : TypeId} {n : Int} {f g : Option UInt8} (h2 : f = g) : ixA P t k n f = ixA P t k n g := by rw [h2]
@[simp] theorem index_str {t : TypeId} {s : ByteArray} {c : IntKind} {n : Int} : indexW P t k (.p (.sc (.string s))) (.p (.sc (.int c n))) = ixA P t k n ((bs s)[n.toNat]?) := by
  cases hz : (bs s)[n.toNat]? <;> simp only [indexW, ixA, hz, and_false]
@[simp] theorem ixA_some {t : TypeId} {n : Int} {c : UInt8} (h0 : 0 ≤ n) (h : isStr P t = true) : ixA P t k n (some c) = k (.p (.sc (.int .u8 c.toNat))) := by simp [ixA, h0, h]
@[simp] theorem extract_tup {i : Nat} {xs : List PC} : extractW i k (.p (.agg true xs)) = opt1 k (xs[i]?) := (rfl)

/-! slices -/
@[simp] theorem slice_s10 {t : TypeId} {s : ByteArray} {c : IntKind} {i : Int} (h : isStr P t = true) : sliceW P t (some (.p (.sc (.int c i)))) none k (.p (.sc (.string s))) = (0 ≤ i ∧ i.toNat ≤ (bs s).length ∧ k (.p (.str ((bs s).drop i.toNat)))) := by
  simp [sliceW, bndW, bndN, bndC, h]
@[simp] theorem slice_s01 {t : TypeId} {s : ByteArray} {d : IntKind} {j : Int} (h : isStr P t = true) : sliceW P t none (some (.p (.sc (.int d j)))) k (.p (.sc (.string s))) = (0 ≤ j ∧ j.toNat ≤ (bs s).length ∧ k (.p (.str ((bs s).take j.toNat)))) := by
  simp [sliceW, bndW, bndN, bndC, h]
@[simp] theorem slice_s11 {t : TypeId} {s : ByteArray} {c d : IntKind} {i j : Int} (h : isStr P t = true) : sliceW P t (some (.p (.sc (.int c i)))) (some (.p (.sc (.int d j)))) k (.p (.sc (.string s))) =
    (0 ≤ i ∧ 0 ≤ j ∧ i.toNat ≤ j.toNat ∧ j.toNat ≤ (bs s).length ∧ k (.p (.str (((bs s).take j.toNat).drop i.toNat)))) := by simp [sliceW, bndW, bndN, bndC, h]
@[simp] theorem slice_l10 {t : TypeId} {xs : List PC} {c : IntKind} {i : Int} (h : (elSize P t).isSome = true) : sliceW P t (some (.p (.sc (.int c i)))) none k (.p (.sl xs)) = ((∀ y ∈ xs, elSize P t = some y.width) ∧ 0 ≤ i ∧ i.toNat ≤ xs.length ∧ k (.p (.sl (xs.drop i.toNat)))) := by
  simp [sliceW, bndW, bndN, bndC, h]
/-! arithmetic -/
section
variable {t : TypeId} {c d : IntKind} {x y : Int}
@[simp] theorem bin_add : binopW P .add t k (.p (.sc (.int c x))) (.p (.sc (.int c y))) = k (.p (.sc (.int c (c.wrap (x + y))))) := by simp [binopW, binW]
@[simp] theorem bin_sub : binopW P .sub t k (.p (.sc (.int c x))) (.p (.sc (.int c y))) = k (.p (.sc (.int c (c.wrap (x - y))))) := by simp [binopW, binW]
@[simp] theorem bin_mul : binopW P .mul t k (.p (.sc (.int c x))) (.p (.sc (.int c y))) = k (.p (.sc (.int c (c.wrap (x * y))))) := by simp [binopW, binW]
@[simp] theorem bin_quo : binopW P .quo t k (.p (.sc (.int c x))) (.p (.sc (.int c y))) = (y ≠ 0 ∧ k (.p (.sc (.int c (c.wrap (x.tdiv y)))))) := by simp [binopW, binW]
@[simp] theorem bin_rem : binopW P .rem t k (.p (.sc (.int c x))) (.p (.sc (.int c y))) = (y ≠ 0 ∧ k (.p (.sc (.int c (x.tmod y))))) := by simp [binopW, binW]
@[simp] theorem bin_eql : binopW P .eql t k (.p (.sc (.int c x))) (.p (.sc (.int c y))) = k (.p (.sc (.bool (x == y)))) := by simp [binopW, binW]
@[simp] theorem bin_neq : binopW P .neq t k (.p (.sc (.int c x))) (.p (.sc (.int c y))) = k (.p (.sc (.bool (x != y)))) := by simp [binopW, binW]
@[simp] theorem bin_lss : binopW P .lss t k (.p (.sc (.int c x))) (.p (.sc (.int c y))) = k (.p (.sc (.bool (decide (x < y))))) := by simp [binopW, binW]
@[simp] theorem bin_leq : binopW P .leq t k (.p (.sc (.int c x))) (.p (.sc (.int c y))) = k (.p (.sc (.bool (decide (x ≤ y))))) := by simp [binopW, binW]
@[simp] theorem bin_gtr : binopW P .gtr t k (.p (.sc (.int c x))) (.p (.sc (.int c y))) = k (.p (.sc (.bool (decide (y < x))))) := by simp [binopW, binW]
@[simp] theorem bin_geq : binopW P .geq t k (.p (.sc (.int c x))) (.p (.sc (.int c y))) = k (.p (.sc (.bool (decide (y ≤ x))))) := by simp [binopW, binW]
end
section
variable {t : TypeId} {x y : ByteArray}
@[simp] theorem bins_add : binopW P .add t k (.p (.sc (.string x))) (.p (.sc (.string y))) = ((bs x).length + (bs y).length ≤ 9223372036854775807 ∧ k (.p (.str (bs x ++ bs y)))) := by simp [binopW, binW]
@[simp] theorem bins_eql : binopW P .eql t k (.p (.sc (.string x))) (.p (.sc (.string y))) = k (.p (.sc (.bool (bs x == bs y)))) := by simp [binopW, binW]
@[simp] theorem bins_neq : binopW P .neq t k (.p (.sc (.string x))) (.p (.sc (.string y))) = k (.p (.sc (.bool (bs x != bs y)))) := by simp [binopW, binW]
end
@[simp] theorem binb_eql {t : TypeId} {x y : Bool} (h : isBool P t = true) : binopW P .eql t k (.p (.sc (.bool x))) (.p (.sc (.bool y))) = k (.p (.sc (.bool (x == y)))) := by simp [binopW, binW, h]
@[simp] theorem un_not {b : Bool} : unopW .not k (.p (.sc (.bool b))) = k (.p (.sc (.bool !b))) := by simp [unopW]
/-! conversions -/
def cvI (k : AV → Prop) (n : Int) : Option IntKind → Prop
  | some c => k (.p (.sc (.int c (c.wrap n))))
  | none => False
@[congr] theorem cvI_congr {n : Int} {f g : Option IntKind} (h2 : f = g) : cvI k n f = cvI k n g := by rw [h2]
@[simp] theorem conv_int {s d : TypeId} {c : IntKind} {n : Int} (h : Av.isSome P s = true) : convW P s d k (.p (.sc (.int c n))) = cvI k n (Av.intOf P d) := by
  unfold convW cvI; generalize Av.intOf P d = z; cases z <;> simp [h]
@[simp] theorem cvI_some {n : Int} {c : IntKind} : cvI k n (some c) = k (.p (.sc (.int c (c.wrap n)))) := (rfl)
@[simp] theorem conv_sb {s d : TypeId} {b : ByteArray} (h : isStr P s = true) (h2 : isBytes P d = true) (h3 : isStr P d = false) (h4 : Av.isSome P s = true) :
    convW P s d k (.p (.sc (.string b))) = ((bs b).length ≤ 9223372036854775807 ∧ k (.p (.sl (bytesPC (bs b))))) := by simp [convW, h, h2, h3, h4]
theorem bytesPC_inj {a b : List UInt8} (h : bytesPC a = bytesPC b) : a = b := by
  induction a generalizing b with
  | nil => cases b <;> simp_all [bytesPC]
  | cons x a ih =>
    cases b with
    | nil => simp [bytesPC] at h
    | cons y b =>
      simp only [bytesPC, List.map_cons, List.cons.injEq, PC.sc.injEq, Value.int.injEq, true_and] at h
      have e : x = y := by apply UInt8.toNat_inj.1; have := h.1; omega
      rw [e, ih h.2]
@[simp] theorem conv_bs {s d : TypeId} {l : List UInt8} (h : isBytes P s = true) (h2 : isStr P d = true) : convW P s d k (.p (.sl (bytesPC l))) = k (.p (.str l)) := by
  simp only [convW, h, h2, true_and]
  apply propext; constructor
  · rintro ⟨l', e, hk⟩; rw [bytesPC_inj e]; exact hk
  · intro hk; exact ⟨l, rfl, hk⟩
def consO (x : PC) : Option (List PC) → Option (List PC)
  | some r => some (x :: r)
  | none => none
@[simp] theorem allP_nil : allP [] = some [] := (rfl)
@[simp] theorem allP_cons {x : PC} {l : List AV} : allP (.p x :: l) = consO x (allP l) := by simp only [allP, consO]; generalize allP l = z; cases z <;> rfl
@[simp] theorem consO_some {x : PC} {r : List PC} : consO x (some r) = some (x :: r) := (rfl)
@[simp] theorem fn_some {f : Fn} {ys : List AV} {xs : List PC} : fnW f k ys (some xs) = k (.p (.fn f xs)) := (rfl)
@[simp] theorem fn_none {f : Fn} {ys : List AV} : fnW f k ys none = k (.clo f ys) := (rfl)
@[simp] theorem len_str {t : TypeId} {s : ByteArray} (h : isStr P t = true) : lenW P t k (.p (.sc (.string s))) = k (.p (.sc (.int .i64 ((bs s).length : Nat)))) := by simp [lenW, h]
@[simp] theorem len_sl {t : TypeId} {xs : List PC} (h : (elSize P t).isSome = true) : lenW P t k (.p (.sl xs)) = k (.p (.sc (.int .i64 (xs.length : Nat)))) := by simp [lenW, h]
@[simp] theorem min_two {c : IntKind} {x y : Int} : minW k [.p (.sc (.int c x)), .p (.sc (.int c y))] = k (.p (.sc (.int c (if y < x then y else x)))) := by simp [minW]
@[simp] theorem max_two {c : IntKind} {x y : Int} : maxW k [.p (.sc (.int c x)), .p (.sc (.int c y))] = k (.p (.sc (.int c (if y > x then y else x)))) := by simp [maxW]
@[simp] theorem value_fn {g : FuncId} {caps xs : List PC} : valueW P k (some xs) (.p (.fn (.func g) caps)) = callW P g (xs.map PC.wk ++ caps) k := (rfl)
@[simp] theorem wk_sc {v : Value} : PC.wk (.sc v) = .sc v := (rfl)
@[simp] theorem wk_nil : PC.wk .nil = .sl [] := (rfl)
@[simp] theorem wk_sl {xs : List PC} : PC.wk (.sl xs) = .sl xs := (rfl)
@[simp] theorem wk_ref {x : PC} : PC.wk (.ref x) = .ref x := (rfl)
@[simp] theorem wk_fn {f : Fn} {xs : List PC} : PC.wk (.fn f xs) = .fn f xs := (rfl)
@[simp] theorem wk_agg {b : Bool} {xs : List PC} : PC.wk (.agg b xs) = .agg b (xs.map PC.wk1) := (rfl)
@[simp] theorem wk1_sc {v : Value} : PC.wk1 (.sc v) = .sc v := (rfl)
@[simp] theorem wk1_nil : PC.wk1 .nil = .sl [] := (rfl)
@[simp] theorem wk1_sl {xs : List PC} : PC.wk1 (.sl xs) = .sl xs := (rfl)
attribute [simp] Value.oneCell'

/-! what is new -/
variable {kt : AV → Tb → Prop} {tb : Tb} {cx : Cx}
def faG (k : AV → Prop) (id off : Nat) : Option (Nat × Nat × Bool) → Prop
  | some (o, s, _) => s ≠ 0 ∧ k (.obj id (off + o))
  | none => False
@[congr] theorem faG_congr {id off : Nat} {f g : Option (Nat × Nat × Bool)} (h : f = g) : faG k id off f = faG k id off g := by rw [h]
@[simp] theorem faO_obj {t : TypeId} {i id off : Nat} : faO P t i k (.obj id off) = faG k id off (fld P t i) := by
  simp only [faO, faG]; cases fld P t i <;> rfl
@[simp] theorem faG_some {id off o s : Nat} {a : Bool} : faG k id off (some (o, s + 1, a)) = k (.obj id (off + o)) := by simp [faG]
@[simp] theorem faO_p {t : TypeId} {i : Nat} {x : PC} : faO P t i k (.p x) = fieldAddrW P t i k (.p x) := (rfl)
@[simp] theorem iaQ_view {t : TypeId} {id f n s : Nat} {m : Option Nat} {c : IntKind} {j : Int} (h : elSize P t = some s) : iaQ P t k (.view id f n s m) (.p (.sc (.int c j))) = (0 ≤ j ∧ j < (n : Int) ∧ k (.obj id ((f + j.toNat) * s))) := by simp [iaQ, h]
@[simp] theorem iaQ_obj {t : TypeId} {id off : Nat} {c : IntKind} {j : Int} {m s : Nat} {a : Bool} (h : arrEl P t = some (m, s, a)) (h0 : 0 ≤ j) (h1 : j < (m : Int)) : iaQ P t k (.obj id off) (.p (.sc (.int c j))) = k (.obj id (off + j.toNat * s)) := by
  simp [iaQ, AV.nm, h, h0, h1]
@[simp] theorem iaQ_p {t : TypeId} {x : PC} {y : AV} : iaQ P t k (.p x) y = indexAddrW P t k (.p x) y.nm := (rfl)
@[simp] theorem iaQ_own {t : TypeId} {i : Nat} {x : List PC} {y : AV} : iaQ P t k (.own i x) y = indexAddrW P t k (.p (.sl x)) y.nm := (rfl)
@[simp] theorem iaQ_full {t : TypeId} {x : List PC} {y : AV} : iaQ P t k (.full x) y = indexAddrW P t k (.p (.sl x)) y.nm := (rfl)
@[simp] theorem slQ_ps {t : TypeId} {lo hi : Option AV} {x : Value} : slQ P t lo hi k (.p (.sc x)) = sliceW P t lo hi k (.p (.sc x)) := (rfl)
@[simp] theorem slQ_pl {t : TypeId} {lo hi : Option AV} {x : List PC} : slQ P t lo hi k (.p (.sl x)) = sliceW P t lo hi k (.p (.sl x)) := (rfl)
section
variable {t : TypeId} {id f n s m : Nat} {c d : IntKind} {i j : Int}
@[simp] theorem slQ_v01 (h : elSize P t = some s) : slQ P t none (some (.p (.sc (.int d j)))) k (.view id f n s (some m)) = (f ≤ m ∧ 0 ≤ j ∧ j.toNat ≤ m - f ∧ k (.view id f j.toNat s (some m))) := by simp [slQ, bndV, bndN, bndC, h]
@[simp] theorem slQ_w01 (h : elSize P t = some s) : slQ P t none (some (.p (.sc (.int d j)))) k (.view id f n s none) = (0 ≤ j ∧ j.toNat ≤ n ∧ k (.view id f j.toNat s none)) := by simp [slQ, bndV, bndN, bndC, h]
end
@[simp] theorem lenQ_p {t : TypeId} {x : PC} : lenQ P t k (.p x) = lenW P t k (.p x) := (rfl)
@[simp] theorem lenQ_own {t : TypeId} {i : Nat} {x : List PC} : lenQ P t k (.own i x) = lenW P t k (.p (.sl x)) := (rfl)
@[simp] theorem lenQ_full {t : TypeId} {x : List PC} : lenQ P t k (.full x) = lenW P t k (.p (.sl x)) := (rfl)
@[simp] theorem lenQ_view {t : TypeId} {id f n s : Nat} {m : Option Nat} (h : (elSize P t).isSome = true) : lenQ P t k (.view id f n s m) = k (.p (.int n)) := by simp [lenQ, h]
@[simp] theorem fieldQ_p {t : TypeId} {i : Nat} {x : PC} : fieldQ P t i k (.p x) = fieldW P t i k (.p x) := (rfl)
@[simp] theorem partA_one {off : Nat} {xs : List AV} : partA off 1 false xs = xs[off]? := (rfl)
@[simp] theorem partA_agg {off s : Nat} {xs : List AV} : partA off s true xs = if off + s ≤ xs.length then some (.agg false ((xs.drop off).take s)) else none := (rfl)
@[simp] theorem extQ_p {i : Nat} {x : PC} : extQ i k (.p x) = extractW i k (.p x) := (rfl)
@[simp] theorem nilQ_obj {id off : Nat} : nilQ k (.obj id off) = k (.obj id off) := (rfl)
@[simp] theorem binQ_int {op : BinOp} {t : TypeId} {x : AV} {c : IntKind} {n : Int} : binQ P op t k x (.p (.sc (.int c n))) = binopW P op t k x.nm (.p (.sc (.int c n))) := (rfl)
@[simp] theorem binQ_str {op : BinOp} {t : TypeId} {x : AV} {s : ByteArray} : binQ P op t k x (.p (.sc (.string s))) = binopW P op t k x.nm (.p (.sc (.string s))) := (rfl)
@[simp] theorem binQ_bool {op : BinOp} {t : TypeId} {x : AV} {b : Bool} : binQ P op t k x (.p (.sc (.bool b))) = binopW P op t k x.nm (.p (.sc (.bool b))) := (rfl)
@[simp] theorem binQ_pagg {op : BinOp} {t : TypeId} {x : AV} {b : Bool} {xs : List PC} : binQ P op t k x (.p (.agg b xs)) = binS P op t k (.p (.agg b xs)) x.nm := (rfl)
@[simp] theorem binQ_agg {op : BinOp} {t : TypeId} {x : AV} {b : Bool} {xs : List AV} : binQ P op t k x (.agg b xs) = binS P op t k (AV.nm (.agg b xs)) x.nm := (rfl)
@[congr] theorem binS_congr {op : BinOp} {t : TypeId} {x x' y y' : AV} (h : x = x') (h2 : y = y') : binS P op t k x y = binS P op t k x' y' := by rw [h, h2]
@[simp] theorem binS_agg {op : BinOp} {t : TypeId} {xs ys : List PC} (h : eqOkT P t = true) : binS P op t k (.p (.agg false ys)) (.p (.agg false xs)) = nilK k op (eqL P xs ys (fldL P t)) := by simp only [binS, h, true_and]
def eqA : Option Bool → Option Bool → Option Bool
  | some a, some b => some (a && b)
  | _, _ => none
def eqB (P : Program) (t : TypeId) : Option PC → Option PC → Option Bool
  | some x, some y => eqC P t x y
  | _, _ => none
@[simp] theorem eqL_some {xs ys : List PC} {l : List (Nat × TypeId)} : eqL P xs ys (some l) = eqF P xs ys l := (rfl)
@[simp] theorem eqF_nil {xs ys : List PC} : eqF P xs ys [] = some true := (rfl)
@[simp] theorem eqF_cons {xs ys : List PC} {o : Nat} {t : TypeId} {l : List (Nat × TypeId)} : eqF P xs ys ((o, t) :: l) = eqA (eqB P t xs[o]? ys[o]?) (eqF P xs ys l) := by
  simp only [eqF]
  cases xs[o]? <;> cases ys[o]? <;> simp only [eqB, eqA]
  rename_i x y
  cases eqC P t x y <;> cases eqF P xs ys l <;> rfl
@[simp] theorem eqA_some {a b : Bool} : eqA (some a) (some b) = some (a && b) := (rfl)
@[simp] theorem eqB_some {t : TypeId} {x y : PC} : eqB P t (some x) (some y) = eqC P t x y := (rfl)
@[simp] theorem eqC_int {t : TypeId} {c : IntKind} {a b : Int} (h : Av.intOf P t = some c) : eqC P t (.sc (.int c a)) (.sc (.int c b)) = some (a == b) := by simp [eqC, h]
@[simp] theorem eqC_str {t : TypeId} {a b : ByteArray} (h : isStr P t = true) : eqC P t (.sc (.string a)) (.sc (.string b)) = some (bs a == bs b) := by simp [eqC, h]
@[simp] theorem binQ_ptr {op : BinOp} {t : TypeId} {x : AV} (h : isPtr P t = true) : binQ P op t k x (.p (.sc (.pointer none))) = nilK k op (nilOfP x) := by simp [binQ, h]
@[congr] theorem nilK_congr {op : BinOp} {f g : Option Bool} (h : f = g) : nilK k op f = nilK k op g := by rw [h]
@[simp] theorem nilK_eql {b : Bool} : nilK k .eql (some b) = k (.p (.bool b)) := by simp [nilK]
@[simp] theorem nilK_neq {b : Bool} : nilK k .neq (some b) = k (.p (.bool !b)) := by simp [nilK]
@[simp] theorem nilOfP_nil : nilOfP (.p (.sc (.pointer none))) = some true := (rfl)
@[simp] theorem nilOfP_obj {i o : Nat} : nilOfP (.obj i o) = some false := (rfl)

/-! making -/
def bldG (P : Program) (t : TypeId) (k : AV → Prop) (ps : List (Nat × AV)) : Option (List PC) → Prop
  | some z => match fillA P t (z.map .p) ps with
      | some zs => k (.agg false zs)
      | none => False
  | none => False
def bldH (k : AV → Prop) : Option (List AV) → Prop
  | some zs => k (.agg false zs)
  | none => False
@[congr] theorem bldG_congr {t : TypeId} {ps ps' : List (Nat × AV)} {f g : Option (List PC)} (h : ps = ps') (h2 : f = g) : bldG P t k ps f = bldG P t k ps' g := by rw [h, h2]
@[congr] theorem bldH_congr {f g : Option (List AV)} (h2 : f = g) : bldH k f = bldH k g := by rw [h2]
@[simp] theorem build_ok {t : TypeId} {ps : List (Nat × AV)} (h : fieldsOk P t = true) : buildW P t k ps = bldG P t k ps (zeroC P t) := by
  simp only [buildW, bldG, h, true_and]; cases zeroC P t <;> rfl
@[simp] theorem bldG_some {t : TypeId} {ps : List (Nat × AV)} {z : List PC} : bldG P t k ps (some z) = bldH k (fillA P t (z.map .p) ps) := by
  simp only [bldG, bldH]
@[simp] theorem bldH_some {zs : List AV} : bldH k (some zs) = k (.agg false zs) := (rfl)
def fillG (P : Program) (t : TypeId) (cs : List AV) (rest : List (Nat × AV)) : Option (Nat × Nat) → Option (List AV) → Option (List AV)
  | some (off, s), some zs => if zs.length = s ∧ off + s ≤ cs.length then fillA P t (cs.take off ++ zs ++ cs.drop (off + s)) rest else none
  | _, _ => none
@[congr] theorem fillG_congr {t : TypeId} {cs cs' : List AV} {rest : List (Nat × AV)} {f f' : Option (Nat × Nat)} {g g' : Option (List AV)} (h : cs = cs') (h2 : f = f') (h3 : g = g') : fillG P t cs rest f g = fillG P t cs' rest f' g' := by rw [h, h2, h3]
@[simp] theorem fillA_nil {t : TypeId} {cs : List AV} : fillA P t cs [] = some cs := (rfl)
@[simp] theorem fillA_cons {t : TypeId} {cs : List AV} {i : Nat} {v : AV} {rest : List (Nat × AV)} : fillA P t cs ((i, v) :: rest) = fillG P t cs rest (placeP P t i) v.cellsA := by
  simp only [fillA, fillG]
  cases placeP P t i with
  | none => rfl
  | some q => cases v.cellsA <;> rfl
@[simp] theorem fillG_some {t : TypeId} {cs zs : List AV} {rest : List (Nat × AV)} {off s : Nat} : fillG P t cs rest (some (off, s)) (some zs) = if zs.length = s ∧ off + s ≤ cs.length then fillA P t (cs.take off ++ zs ++ cs.drop (off + s)) rest else none := (rfl)
@[simp] theorem cells_sc {v : Value} : AV.cellsA (.p (.sc v)) = some [.p (.sc v)] := (rfl)
@[simp] theorem cells_pagg {xs : List PC} : AV.cellsA (.p (.agg false xs)) = some (xs.map .p) := (rfl)
@[simp] theorem cells_full {xs : List PC} : AV.cellsA (.full xs) = some [.full xs] := (rfl)
@[simp] theorem cells_agg {xs : List AV} : AV.cellsA (.agg false xs) = some xs := (rfl)
def litG (P : Program) (n : Nat) (k : AV → Prop) (ps : List (Nat × AV)) : Option (TypeId × Nat × Nat) → Prop
  | some (_, sz, _) => 0 < sz ∧ inOrder 0 ps = true ∧ ps.length = n ∧ n * sz ≤ 16777216 ∧ match allP (ps.map fun p => p.2.nm) with
      | some ys => ys.all (fun y => y.width == sz && noTup y) = true ∧ k (.full ys)
      | none => False
  | none => False
def litH (k : AV → Prop) (sz : Nat) : Option (List PC) → Prop
  | some ys => ys.all (fun y => y.width == sz && noTup y) = true ∧ k (.full ys)
  | none => False
@[congr] theorem litG_congr {n : Nat} {ps ps' : List (Nat × AV)} {f g : Option (TypeId × Nat × Nat)} (h : ps = ps') (h2 : f = g) : litG P n k ps f = litG P n k ps' g := by rw [h, h2]
@[congr] theorem litH_congr {sz : Nat} {f g : Option (List PC)} (h2 : f = g) : litH k sz f = litH k sz g := by rw [h2]
@[simp] theorem lit_w {t : TypeId} {n : Nat} {ps : List (Nat × AV)} : litW P t n k ps = litG P n k ps (elTy P t) := by
  simp only [litW, litG]; cases elTy P t <;> rfl
@[simp] theorem litG_some {n : Nat} {ps : List (Nat × AV)} {e : TypeId} {sz by_ : Nat} : litG P n k ps (some (e, sz, by_)) = (0 < sz ∧ inOrder 0 ps = true ∧ ps.length = n ∧ n * sz ≤ 16777216 ∧ litH k sz (allP (ps.map fun p => p.2.nm))) := by
  simp only [litG, litH]
@[simp] theorem litH_some {sz : Nat} {ys : List PC} : litH k sz (some ys) = (ys.all (fun y => y.width == sz && noTup y) = true ∧ k (.full ys)) := (rfl)
@[simp] theorem inOrder_nil {α : Type} {i : Nat} : inOrder i ([] : List (Nat × α)) = true := (rfl)
@[simp] theorem inOrder_cons {α : Type} {i j : Nat} {x : α} {l : List (Nat × α)} : inOrder i ((j, x) :: l) = (j == i && inOrder (i + 1) l) := (rfl)
@[simp] theorem noTup_sc {v : Value} : noTup (.sc v) = true := (rfl)
@[simp] theorem noTup_agg {b : Bool} {x : List PC} : noTup (.agg b x) = !b := (rfl)

/-! objects -/
def boxG (t : TypeId) (tb : Tb) (kt : AV → Tb → Prop) : Option (List AV) → Prop
  | some zs => kt (.obj tb.nx 0) (tb.addOb ⟨t, zs.length, zs⟩)
  | none => False
@[congr] theorem boxG_congr {t : TypeId} {f g : Option (List AV)} (h : f = g) : boxG t tb kt f = boxG t tb kt g := by rw [h]
@[simp] theorem boxT_w {t : TypeId} {x : AV} : boxT P t tb kt x = boxG t tb kt x.cellsA := by
  simp only [boxT, boxG]; cases x.cellsA <;> rfl
@[simp] theorem boxG_some {t : TypeId} {zs : List AV} : boxG t tb kt (some zs) = kt (.obj tb.nx 0) (tb.addOb ⟨t, zs.length, zs⟩) := (rfl)
@[simp] theorem allocT_some {t : TypeId} {zs : List PC} : allocT P tb kt (some zs) t = kt (.obj tb.nx 0) (tb.addOb ⟨t, zs.length, zs.map .p⟩) := (rfl)
def optT (kt : AV → Tb → Prop) (tb : Tb) : Option AV → Prop
  | some y => kt y tb
  | none => False
@[congr] theorem optT_congr {f g : Option AV} (h2 : f = g) : optT kt tb f = optT kt tb g := by rw [h2]
@[simp] theorem optT_some {y : AV} : optT kt tb (some y) = kt y tb := (rfl)
def ldG (kt : AV → Tb → Prop) (tb : Tb) (off : Nat) : Option Ob → Option Bool → Option Nat → Prop
  | some ob, some ag, some s => optT kt tb (partA off s ag ob.xs)
  | _, _, _ => False
@[congr] theorem ldG_congr {off off' : Nat} {f f' : Option Ob} {g g' : Option Bool} {h h' : Option Nat} (e0 : off = off') (e1 : f = f') (e2 : g = g') (e3 : h = h') : ldG kt tb off f g h = ldG kt tb off' f' g' h' := by rw [e0, e1, e2, e3]
@[simp] theorem loadT_obj {t : TypeId} {id off : Nat} : loadT P t tb kt (.obj id off) = ldG kt tb off (lk id tb.bx) (tyAgg P t) (tySize P t) := by
  simp only [loadT, ldG]
  cases lk id tb.bx <;> cases tyAgg P t <;> cases tySize P t <;> simp only [optT]
  rename_i a b c
  cases partA off c b a.xs <;> rfl
@[simp] theorem ldG_some {off s : Nat} {ob : Ob} {ag : Bool} : ldG kt tb off (some ob) (some ag) (some s) = optT kt tb (partA off s ag ob.xs) := (rfl)
@[simp] theorem loadT_p {t : TypeId} {x : PC} : loadT P t tb kt (.p x) = loadW P t (qK kt tb) (.p x) := (rfl)
@[simp] theorem readW_obj {t : TypeId} {id off l : Nat} : readW P cx l t tb kt (.obj id off) = (id = cx.lb l ∧ loadT P t tb kt (.obj id off)) := (rfl)
def stG (P : Program) (t : TypeId) (tb : Tb) (kt : AV → Tb → Prop) (id off : Nat) : Option (List AV) → Option Ob → Prop
  | some zs, some ob => tySize P t = some zs.length ∧ off + zs.length ≤ ob.xs.length ∧ kt .any (tb.setOb id { ob with xs := ob.xs.take off ++ zs ++ ob.xs.drop (off + zs.length) })
  | _, _ => False
@[congr] theorem stG_congr {t : TypeId} {id off off' : Nat} {f f' : Option (List AV)} {g g' : Option Ob} (e0 : off = off') (e1 : f = f') (e2 : g = g') : stG P t tb kt id off f g = stG P t tb kt id off' f' g' := by rw [e0, e1, e2]
@[simp] theorem storeT_obj {t : TypeId} {id off : Nat} {y : AV} : storeT P t tb kt (.obj id off) y = stG P t tb kt id off y.cellsA (lk id tb.bx) := by
  simp only [storeT, stG]
  cases y.cellsA with
  | none => rfl
  | some zs => simp only; cases lk id tb.bx <;> rfl
@[simp] theorem stG_some {t : TypeId} {id off : Nat} {zs : List AV} {ob : Ob} : stG P t tb kt id off (some zs) (some ob) = (tySize P t = some zs.length ∧ off + zs.length ≤ ob.xs.length ∧ kt .any (tb.setOb id { ob with xs := ob.xs.take off ++ zs ++ ob.xs.drop (off + zs.length) })) := (rfl)

/-! copy, clear -/
section
variable {id id' f n s f' n' s' : Nat} {m m' : Option Nat} {y : AV} {ob ob' : Ob} {es : Option Nat}
def mkG (tb : Tb) (kt : AV → Tb → Prop) (e : TypeId) (s by_ : Nat) (n c : Int) : Option (List PC) → Prop
  | some z => 0 < s ∧ 0 ≤ n ∧ n ≤ c ∧ by_ * c.toNat ≤ 281474976710656 ∧ c.toNat ≤ maxLen ∧ kt (.view tb.nx 0 n.toNat s (some c.toNat)) (tb.addOb ⟨e, s, (repC c.toNat z).map .p⟩)
  | none => False
@[congr] theorem mkG_congr {e : TypeId} {by_ : Nat} {n c : Int} {a b : Option (List PC)} (h : a = b) : mkG tb kt e s by_ n c a = mkG tb kt e s by_ n c b := by rw [h]
@[simp] theorem mkT_some {e : TypeId} {by_ : Nat} {k1 k2 : IntKind} {n c : Int} : mkT P tb kt (.p (.sc (.int k1 n))) (.p (.sc (.int k2 c))) (some (e, s, by_)) = mkG tb kt e s by_ n c (zeroC P e) := by
  simp only [mkT, mkG]; cases zeroC P e <;> rfl
@[simp] theorem mkG_some {e : TypeId} {by_ : Nat} {n c : Int} {z : List PC} : mkG tb kt e s by_ n c (some z) = (0 < s ∧ 0 ≤ n ∧ n ≤ c ∧ by_ * c.toNat ≤ 281474976710656 ∧ c.toNat ≤ maxLen ∧ kt (.view tb.nx 0 n.toNat s (some c.toNat)) (tb.addOb ⟨e, s, (repC c.toNat z).map .p⟩)) := (rfl)
end

/-! append -/
@[simp] theorem appT_some {u e : TypeId} {sz by_ : Nat} {x y : AV} : appT P u tb kt x y (some (e, sz, by_)) = appY P u e sz by_ tb kt y (appX tb.rw e sz x) := (rfl)
@[congr] theorem appY_congr {u e : TypeId} {sz by_ : Nat} {y y' : AV} {z z' : Option (Option Nat × List PC)} (h2 : y = y') (h3 : z = z') : appY P u e sz by_ tb kt y z = appY P u e sz by_ tb kt y' z' := by rw [h2, h3]
@[simp] theorem appX_own {rw : List (Nat × TypeId × Nat)} {e : TypeId} {sz id : Nat} {xs : List PC} : appX rw e sz (.own id xs) = if lk id rw = some (e, sz) then some (some id, xs) else none := (rfl)
@[simp] theorem appX_full {rw : List (Nat × TypeId × Nat)} {e : TypeId} {sz : Nat} {xs : List PC} : appX rw e sz (.full xs) = some (none, xs) := (rfl)
section
variable {u e : TypeId} {sz by_ : Nat} {rid : Option Nat} {xs : List PC}
@[simp] theorem appY_sl {ys : List PC} : appY P u e sz by_ tb kt (.p (.sl ys)) (some (rid, xs)) = appL P u e sz by_ rid xs tb kt ys := (rfl)
@[simp] theorem appL_w {ys : List PC} (h : (elSize P u).isSome = true) : appL P u e (sz + 1) by_ rid xs tb kt ys = ((∀ x ∈ xs, x.width = sz + 1) ∧ (∀ y ∈ ys, y.width = sz + 1) ∧ (xs.length + ys.length) * by_ ≤ 140737488355328 ∧ xs.length + ys.length ≤ 9223372036854775807 ∧
    kt (.own tb.nx (xs ++ ys)) (appTb tb rid e (sz + 1))) := by simp [appL, h]
end
@[simp] theorem bytes_width {l : List UInt8} : ∀ x ∈ bytesPC l, x.width = 1 := by simp [bytesPC]
@[simp] theorem bytes_length {l : List UInt8} : (bytesPC l).length = l.length := by simp [bytesPC]

/-! the end -/
variable {R : List AV → Tb → Prop}
@[simp] theorem QRet_r {fn : Func} : QRet P fn R .ret st = retW P R st.tb (resA P st fn.results.toList) := (rfl)
@[congr] theorem retW_congr {tb : Tb} {f g : Option (List AV)} (h : f = g) : retW P R tb f = retW P R tb g := by rw [h]
@[simp] theorem retW_some {tb : Tb} {zs : List AV} : retW P R tb (some zs) = R zs tb := (rfl)
def consA : Option AV → Option (List AV) → Option (List AV)
  | some x, some l => some (x :: l)
  | _, _ => none
@[simp] theorem res_nil : resA P st [] = some [] := (rfl)
@[simp] theorem res_tmp {t : Tmp} {l : List ResultVar} : resA P st (.tmp t :: l) = consA (some (st.sl t)) (resA P st l) := by
  simp only [resA, consA]; cases resA P st l <;> rfl
@[simp] theorem res_cell {t : Tmp} {ty : TypeId} {l : List ResultVar} : resA P st (.cell t ty :: l) = consA (resA.cellA P st (st.sl t) ty) (resA P st l) := by
  simp only [resA, consA]; cases resA.cellA P st (st.sl t) ty <;> cases resA P st l <;> rfl
@[simp] theorem consA_some {x : AV} {l : List AV} : consA (some x) (some l) = some (x :: l) := (rfl)
def cellG (off : Nat) : Option Ob → Option Bool → Option Nat → Option AV
  | some ob, some ag, some s => partA off s ag ob.xs
  | _, _, _ => none
@[simp] theorem cellA_obj {id off : Nat} {ty : TypeId} : resA.cellA P st (.obj id off) ty = cellG off (lk id st.tb.bx) (tyAgg P ty) (tySize P ty) := by
  simp only [resA.cellA, cellG]
  cases lk id st.tb.bx <;> cases tyAgg P ty <;> cases tySize P ty <;> rfl
@[simp] theorem cellG_some {off s : Nat} {ob : Ob} {ag : Bool} : cellG off (some ob) (some ag) (some s) = partA off s ag ob.xs := (rfl)
@[simp] theorem RPure_ap {ys : List PC} {zs : List AV} {tb : Tb} : RPure ys zs tb = toAll zs (ys.map .p) := (rfl)
@[simp] theorem toAll_nil : toAll [] [] = True := by simp only [toAll]
@[simp] theorem toAll_cons {x y : AV} {l m : List AV} : toAll (x :: l) (y :: m) = (x.to y ∧ toAll l m) := by simp only [toAll]
theorem to_1 {x y : AV} (h : ∀ t ys, y ≠ .agg t ys) : x.to y = x.to1 y := by
  unfold AV.to; split
  · exact absurd rfl (h _ _)
  · rfl
theorem to_p {x : AV} {y : PC} : x.to (.p y) = ∃ p, x.pc = some p ∧ (y = p ∨ y = p.wk) := by
  rw [to_1 (by simp)]
  apply propext; constructor
  · rintro (rfl | ⟨p, h, h1 | h1⟩ | ⟨rfl, h⟩ | ⟨_, _, _, _, _, _, h⟩)
    · exact ⟨y, rfl, .inl rfl⟩
    · injection h1 with h1; exact ⟨p, h, .inl h1⟩
    · injection h1 with h1; exact ⟨p, h, .inr h1⟩
    · cases h
    · cases h
  · rintro ⟨p, h, rfl | rfl⟩
    · exact .inr (.inl ⟨_, h, .inl rfl⟩)
    · exact .inr (.inl ⟨_, h, .inr rfl⟩)
def toG (y : PC) : Option PC → Prop
  | some p => y = p ∨ y = p.wk
  | none => False
@[simp] theorem to_pG {x : AV} {y : PC} : x.to (.p y) = toG y x.pc := by
  rw [to_p]; cases x.pc <;> simp [toG]
@[simp] theorem toG_sc {y : PC} {v : Value} : toG y (some (.sc v)) = (y = .sc v) := by simp [toG]
@[simp] theorem toG_sl {y : PC} {v : List PC} : toG y (some (.sl v)) = (y = .sl v) := by simp [toG]
@[simp] theorem toG_nil {y : PC} : toG y (some .nil) = (y = .nil ∨ y = .sl []) := by simp [toG]
@[simp] theorem toG_ref {y x : PC} : toG y (some (.ref x)) = (y = .ref x) := by simp [toG]
@[simp] theorem toG_fn {y : PC} {f : Fn} {x : List PC} : toG y (some (.fn f x)) = (y = .fn f x) := by simp [toG]
@[simp] theorem toG_agg {y : PC} {b : Bool} {x : List PC} : toG y (some (.agg b x)) = (y = .agg b x ∨ y = .agg b (x.map PC.wk1)) := by simp [toG]
@[simp] theorem to_own {x : AV} {i : Nat} {ys : List PC} : x.to (.own i ys) = (x = .own i ys) := by
  rw [to_1 (by simp)]; simp [AV.to1, eq_comm]
@[simp] theorem to_obj {x : AV} {i o : Nat} : x.to (.obj i o) = (x = .obj i o) := by
  rw [to_1 (by simp)]; simp [AV.to1, eq_comm]
@[simp] theorem to_viewS {x : AV} {i o n s m : Nat} : x.to (.view i o n s (some m)) = (x = .view i o n s (some m)) := by
  rw [to_1 (by simp)]; simp [AV.to1, eq_comm]
@[simp] theorem to_viewN {x : AV} {i o n s : Nat} : x.to (.view i o n s none) = (∃ m, x = .view i o n s m) := by
  rw [to_1 (by simp)]
  simp only [AV.to1, reduceCtorEq, false_or, or_false, and_false, exists_false]
  apply propext; constructor
  · rintro (h | ⟨id, o', n', s', m, h1, h2⟩)
    · exact ⟨none, h.symm⟩
    · injection h2 with e1 e2 e3 e4; subst e1; subst e2; subst e3; subst e4; exact ⟨m, h1⟩
  · rintro ⟨m, rfl⟩; exact .inr ⟨_, _, _, _, _, rfl, rfl⟩
@[simp] theorem to_full {x : AV} {ys : List PC} : x.to (.full ys) = (x = .full ys ∨ x = .p .nil ∧ ys = []) := by
  rw [to_1 (by simp)]; simp [AV.to1, eq_comm]
theorem wrap64_id {n : Int} (h1 : -9223372036854775808 ≤ n) (h2 : n ≤ 9223372036854775807) : IntKind.i64.wrap n = n := IntWalk.i64_in n ⟨h1, h2⟩
end
end Go.Av
