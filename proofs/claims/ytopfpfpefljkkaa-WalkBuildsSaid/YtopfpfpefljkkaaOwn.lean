/- Owned slices of bytes: small laws over any program. -/
import Derived.WalkKit
import Derived.Laws.IdiomStrings
import Derived.Laws.BytesArg
import Derived.Lib.Hide
import Derived.Handy
import Derived.Deep.QuietTactic
import Derived.BigQuiet
namespace Go.Proofs.Ytopfpfpefljkkaa
open Go.RowKit
set_option linter.unusedVariables false

/-- Bytes as cells. -/
def bcells (l : List UInt8) : List Value := l.map fun b => .int .u8 (b.toNat : Int)
@[simp] theorem bcells_length (l : List UInt8) : (bcells l).length = l.length := by simp [bcells]
theorem bcells_append (l m : List UInt8) : bcells (l ++ m) = bcells l ++ bcells m := by simp [bcells]

/-- The slice v of bytes, made by the call itself, has the bytes l. -/
def OwnB (w : World) (B : Nat) (e : TypeId) (v : Value) (l : List UInt8) : Prop := w.ownsRow B e 1 v l.length (bcells l)

/-- What a program's types are: []byte, byte, string. -/
structure ByteTypes (P : Program) (t e s : TypeId) : Prop where
  ht : P.underlying t = some (.slice e)
  he : P.underlying e = some (.int .u8)
  hs : P.underlying s = some .string
  hi : (P.info? e).map (fun i => (i.zero, i.size, i.bytes)) = some (some (.int .u8 0), 1, 1)

section
variable {P : Program} {t e s : TypeId}

theorem OwnB.nil (w : World) (B : Nat) (e : TypeId) : OwnB w B e (.slice none 0 0) [] := World.ownsRow_nil w B e 1
theorem OwnB.made (w : World) (B : Nat) (e : TypeId) (cur : Array Value) (cap : Nat) (hb : B ≤ w.heap.size) (hm : cap ≤ maxLen) (hs : cur.size = cap) :
    OwnB (w.alloc (.cells cur e)) B e (.slice (some ⟨w.heap.size, 0, none⟩) 0 cap) [] := World.ownsRow_made w cur cap hb hm (by simpa using hs)
theorem OwnB.drew {w : World} {B : Nat} {v : Value} {l : List UInt8} (h : OwnB w B e v l) : OwnB w.drew B e v l := World.ownsRow.drew h
theorem OwnB.alloc {w : World} {B : Nat} {v : Value} {l : List UInt8} (h : OwnB w B e v l) (o : Obj) : OwnB (w.alloc o) B e v l := World.ownsRow.alloc h o
theorem OwnB.below {w w' : World} {B : Nat} {v : Value} {l : List UInt8} (h : OwnB w B e v l) (hb : Below w.heap.size w w') : OwnB w' B e v l := by
  obtain ⟨h1, h2⟩ := h
  refine ⟨h1, ?_⟩
  rcases h2 with h2 | ⟨g, cap, cur, hv, hg, hh, r⟩
  · exact .inl h2
  · refine .inr ⟨g, cap, cur, hv, hg, ?_, r⟩
    rw [hb.block g (Array.getElem?_eq_some_iff.1 hh).1]; exact hh

/-- 'string(b)' of a slice that the call made. -/
theorem OwnB.string {w : World} {B : Nat} {v : Value} {l : List UInt8} (T : ByteTypes P t e s) (h : OwnB w B e v l) :
    (convert t s v).run P w = .ok (.string ⟨l.toArray⟩) w := by
  rcases h.2 with ⟨rfl, h0⟩ | ⟨g, cap, cur, rfl, hb, hg, hcap, hm, hsz, htake⟩
  · have : l = [] := List.length_eq_zero_iff.1 h0
    subst this
    rw [run_convert_bytes_string w t s e _ _ _ T.ht T.he T.hs]
    simp [Conv.bytesToString, ByteArray.empty, ByteArray.emptyWithCapacity]
    rfl
  · refine run_convert_bytes_back w t s e ⟨g, 0, none⟩ cap l T.ht T.he T.hs fun j hj => ?_
    have := World.ownsRow.cells h (g := g) rfl j (.int .u8 (l[j].toNat : Int)) (by simp [bcells, List.getElem?_eq_getElem hj])
    exact this

/-- 'string([]byte{x})' right behind its making. -/
theorem string_lit (T : ByteTypes P t e s) (w : World) (l : List UInt8) (cs : Array Value) (n : Nat) (hn : n = l.length) (hcs : cs.toList = bcells l) (hm : n ≤ maxLen) :
    (convert t s (.slice (some ⟨w.heap.size, 0, none⟩) n n)).run P (w.alloc (.cells cs e)) = .ok (.string ⟨l.toArray⟩) (w.alloc (.cells cs e)) := by
  subst hn
  have : OwnB (w.alloc (.cells cs e)) 0 e (.slice (some ⟨w.heap.size, 0, none⟩) l.length l.length) l := by
    have := World.ownsRow_lit (base := 0) (e := e) (size := 1) w cs l.length (Nat.zero_le _) hm (by
      have := congrArg List.length hcs
      simpa using this)
    rw [hcs] at this
    exact this
  exact this.string T

/-- 'string(b)' of one byte, wherever it lies. -/
theorem string1 (T : ByteTypes P t e s) (W : World) (b : Nat) (x : Int) (hc : W.cell? ⟨b, 0, none⟩ = some (.int .u8 x)) :
    (convert t s (.slice (some ⟨b, 0, none⟩) 1 1)).run P W = .ok (.string ⟨#[UInt8.ofNat x.toNat]⟩) W := by
  have := run_convert_bytes_arg W t e T.ht T.he b 0 1 1 [x] rfl (fun i hi => by
    have : i = 0 := by omega
    subst this; simpa using hc) s T.hs
  simpa [strOfNums] using this
theorem cat1 {x : Int} {m : Nat} {l : List UInt8} (h : x = (m : Int)) : ((⟨#[UInt8.ofNat x.toNat]⟩ : ByteArray) ++ ⟨l.toArray⟩) = ⟨(UInt8.ofNat m :: l).toArray⟩ := by
  subst h
  apply ByteArray.ext
  simp

theorem bcells_one (l : List UInt8) : ∀ u ∈ bcells l, u.oneCell' = true := by
  intro u hu
  simp [bcells] at hu
  obtain ⟨b, _, rfl⟩ := hu
  rfl

/-- 'append(b, x, ..)' of bytes that are written out, onto a slice that the call made. -/
theorem append_bytes (T : ByteTypes P t e s) {ops : Array Oper} {rest : List Oper} {o : Oper} {a : Act} {Q : Exit → Act → World → Prop} (hgd : o.guard = none) (x y : Operand)
    (ho : o.op = .call { callee := .builtin .append, args := #[x, y], argTypes := #[t, t] })
    (B : Nat) (v : Value) (l m : List UInt8) (k : Nat) (hk : k = m.length) (w : World) (cs : Array Value) (hcs : cs.toList = bcells m) (hx : a.eval x = v) (hown : OwnB w B e v l)
    (hy : a.eval y = .slice (some ⟨w.heap.size, 0, none⟩) k k) (hlen : l.length + k ≤ 140737488355328) (hB : B ≤ w.heap.size)
    (h : ∀ v' w', OwnB w' B e v' (l ++ m) → Below B w w' → w.heap.size < w'.heap.size → wpList P ops Q rest (a.put o.dst v') w') :
    wpList P ops Q (o :: rest) a (w.alloc (.cells cs e)) := by
  subst hk
  obtain ⟨i0, hi, hz0, hz1, hz2⟩ := info_parts T.hi
  refine wpList_append_own _ hgd x y t ho B e i0 (.int .u8 0) 1 1 T.ht hi hz0 hz1 hz2 rfl (by decide) v l.length (bcells l) hx (hown.alloc _)
    ⟨w.heap.size, 0, none⟩ m.length m.length (bcells m) hy (by simp) ?_ (bcells_one m) (by unfold maxLen; omega) (by omega) (by simp; omega) ?_
  · intro j u hj
    have e1 : (⟨w.heap.size, 0, none⟩ : Addr).add j = ⟨w.heap.size, j, none⟩ := by unfold Addr.add; split <;> simp_all
    rw [e1, World.cell?_alloc_mark w cs e (0, 0) j, ← hj, ← hcs, Array.getElem?_toList]
  · intro v' w' h1 h2 _
    refine h v' w' ?_ ?_ ?_
    · show w'.ownsRow B e 1 v' (l ++ m).length (bcells (l ++ m))
      rw [List.length_append, bcells_append]; exact h1
    · refine ((Below.refl B w).alloc hB _).grown h2 (by simp; omega) fun j hj => ?_
      exact (World.ownsRow.lt hown j hj).1
    · have := h2.size; simp at this; omega
end

theorem bcell {W w1 : World} (hb : Below W.heap.size W w1) : (∀ b o, b < W.heap.size → w1.cell? ⟨b, o, none⟩ = W.cell? ⟨b, o, none⟩) ∧ (∀ b o, b < W.heap.size → w1.frozen? ⟨b, o, none⟩ = W.frozen? ⟨b, o, none⟩) :=
  ⟨fun b o h => hb.cell (p := ⟨b, o, none⟩) h, fun b o h => hb.frozen (p := ⟨b, o, none⟩) h⟩

/-- The worlds behind w in which all that lay in w lies as it did. -/
structure Fut (w : World) where
  at_ : World
  is : Below w.heap.size w at_
instance (w : World) : Nonempty (Fut w) := ⟨⟨w, Below.refl _ _⟩⟩
def After (w : World) : World → Prop := fun w' => Below w.heap.size w w'
theorem After.refl (w : World) : After w w := Below.refl _ _
theorem After.trans {a b c : World} (h : After a b) (k : After b c) : After a c := Below.trans h (Below.mono k h.size)

/-- A region that draws its order, whose operations read and whose callees make memory at most: one walk serves every order. -/
theorem wp_region_after {P : Program} {id : Nat} {Q : Exit → Act → World → Prop} {a : Act} {w : World} {l : List Oper} (hm : P.follows .mixedOrders = true) (hB : Region.lexB .any l.toArray = true)
    (h : wpQuiet P l.toArray (fun w' => ∃ x : Fut w, w' = x.at_) (fun a' => ∀ x : Fut w, Q .normal a' x.at_) l a) : (Code.region id l.toArray true).wp P Q a w := by
  refine wp_region_quiet (C := fun w' => ∃ x : Fut w, w' = x.at_) hm hB ⟨⟨_, (Below.refl _ _).drew⟩, rfl⟩ ?_
  have e : (fun a' : Act => ∀ w', (∃ x : Fut w, w' = x.at_) → Q .normal a' w') = fun a' => ∀ x : Fut w, Q .normal a' x.at_ := by
    funext a'
    exact propext ⟨fun h x => h _ ⟨x, rfl⟩, fun h w' ⟨x, hx⟩ => hx ▸ h x⟩
  rw [e]
  simpa using h
theorem Calls.after {P : Program} {f : FuncId} {args : Array Value} {w : World} {x : Fut w} {v : Value}
    (h : Calls P f args x.at_ fun e w' => e = .returned v ∧ Below x.at_.heap.size x.at_ w') : Calls P f args x.at_ fun e w'' => e = .returned v ∧ ∃ y : Fut w, w'' = y.at_ :=
  h.mono fun _ w' ⟨he, hw⟩ => ⟨he, ⟨w', After.trans x.is hw⟩, rfl⟩
theorem Calls.after_same {P : Program} {f : FuncId} {args : Array Value} {w : World} {x : Fut w} {v : Value}
    (h : Calls P f args x.at_ fun e w' => e = .returned v ∧ x.at_ = w') : Calls P f args x.at_ fun e w'' => e = .returned v ∧ ∃ y : Fut w, w'' = y.at_ :=
  h.mono fun _ _ ⟨he, hw⟩ => ⟨he, x, hw.symm⟩

theorem size_mk (l : List UInt8) : (⟨l.toArray⟩ : ByteArray).size = l.length := List.size_toArray
theorem data_mk (l : List UInt8) : (⟨l.toArray⟩ : ByteArray).data.toList = l := rfl

theorem u8_ofNat (n : Nat) (h : n < 256) : (UInt8.ofNat n).toNat = n := by
  show n % 256 = n
  exact Nat.mod_eq_of_lt h
/-- One byte as a cell, whatever its spelling. -/
theorem lit1 {x : Int} {n : Nat} (hx : x = (n : Int)) (h : n < 256) : [Value.int .u8 x] = bcells [UInt8.ofNat n] := by
  subst hx; simp [bcells, u8_ofNat n h]
theorem litb {x : Int} {b : UInt8} (hx : x = (b.toNat : Int)) : [Value.int .u8 x] = bcells [b] := by
  subst hx; simp [bcells]
end Go.Proofs.Ytopfpfpefljkkaa
