import Derived.Test.YtleoedjjepkhgaaPlay
import Derived.Test.YtleoedjjepkhgaaReach
import Derived.Test.YtleoedjjepkhgaaRefa
import Derived.Test.YtleoedjjepkhgaaLaid
import Derived.Test.YtleoedjjepkhgaaFoot
/- What plays: who lays, collects, reads and writes; where it lies; the steps in memory. -/
namespace Go.Proofs.Ytleoedjjepkhgaa
open Go.RowKit

theorem own_two {w : World} {b1 b2 : Nat} {e1 e2 : TypeId} {s1 s2 n1 n2 k : Nat} {v1 v2 : Value} {x1 x2 : List Value} (H1 : w.ownsRow b1 e1 s1 v1 n1 x1) (H2 : w.ownsRow b2 e2 s2 v2 n2 x2) (hne : e1 ≠ e2) (h1 : v1.ownBlock = some k) (h2 : v2.ownBlock = some k) : False := by
  rcases H2.2 with ⟨rfl, _⟩ | ⟨g, cap, cur, rfl, _, hg, _⟩
  · simp [Value.ownBlock] at h2
  · have e : g = k := by simpa [Value.ownBlock] using h2
    subst e
    exact own_ne' H1 hg hne h1

abbrev MemI := World → List Nat → St → Nat → Prop

/-- what laying leaves -/
def LaidPost (I : MemI) (F : List Nat) (w : World) (S : St) (k : Nat) (t m : Int) (roots : List Int) (e : Ending) (w' : World) : Prop :=
  ∃ a n c F', e = .returned (.tuple #[.int .u64 (memAlloc S t m roots).word, .slice a n c, .int .i64 (memAlloc S t m roots).err]) ∧ Chg F w w' ∧ I w' F' (memAlloc S t m roots).st (k + (memAlloc S t m roots).more) ∧
    (∀ b ∈ F', b ∈ F ∨ w.heap.size ≤ b) ∧ (∀ l, (memAlloc S t m roots).roots = some l → w'.ownsRow w.heap.size 49 1 (.slice a n c) l.length (words l)) ∧ ∀ b, (Value.slice a n c).ownBlock = some b → b ∉ F' ∧ w.heap.size ≤ b

def ForcedPost (I : MemI) (F : List Nat) (w : World) (S : St) (k : Nat) (roots : List Int) (e : Ending) (w' : World) : Prop :=
  ∃ a c F', e = .returned (.slice a roots.length c) ∧ Chg F w w' ∧ I w' F' (S.coll roots) (k + 1) ∧
    (∀ b ∈ F', b ∈ F ∨ w.heap.size ≤ b) ∧ w'.ownsRow w.heap.size 49 1 (.slice a roots.length c) roots.length (words (S.now roots)) ∧ ∀ b, (Value.slice a roots.length c).ownBlock = some b → b ∉ F'

def SetPost (I : MemI) (F : List Nat) (w : World) (S : St) (k : Nat) (x i v : Int) (e : Ending) (w' : World) : Prop :=
  ∃ F', e = .returned (.int .i64 (S.set x i v).2) ∧ Chg F w w' ∧ I w' F' (S.set x i v).1 k ∧ ∀ b ∈ F', b ∈ F ∨ w.heap.size ≤ b

/-- who lays, collects, reads and writes, by function values -/
structure Doer (I : MemI) (FA FF FG FS FZ : Nat) (pre post rF rG : Array Value) : Prop where
  keep : ∀ {F G : List Nat} {w w' : World} {S : St} {k : Nat}, I w F S k → Chg G w w' → (∀ b ∈ F, b ∉ G) → I w' F S k
  lts : ∀ {F : List Nat} {w : World} {S : St} {k : Nat}, I w F S k → ∀ b ∈ F, b < w.heap.size
  ok : ∀ {F : List Nat} {w : World} {S : St} {k : Nat}, I w F S k → S.ok ∧ ∀ b ∈ S.L, b.ok
  eA : ∀ args w, (callFunc FA args).run Try.prog w = .ok (.enter FA args) w
  eF : ∀ args w, (callFunc FF args).run Try.prog w = .ok (.enter FF args) w
  eG : ∀ args w, (callFunc FG args).run Try.prog w = .ok (.enter FG args) w
  eS : ∀ args w, (callFunc FS args).run Try.prog w = .ok (.enter FS args) w
  eZ : ∀ args w, (callFunc FZ args).run Try.prog w = .ok (.enter FZ args) w
  alloc : ∀ {F : List Nat} {w : World} {S : St} {k : Nat} (t m : Int) (a : Option Addr) (c : Nat) (roots : List Int), I w F S k → k < 1000 → -9223372036854775808 ≤ t ∧ t ≤ 9223372036854775807 → -9223372036854775808 ≤ m ∧ m ≤ 9223372036854775807 → w.ownsRow 0 49 1 (.slice a roots.length c) roots.length (words roots) →
    roots.length ≤ 1000000 → (∀ x ∈ roots, Wd x) → (∀ b, (Value.slice a roots.length c).ownBlock = some b → b ∉ F) → (∃ g, a = some ⟨g, 0, none⟩) → Calls Try.prog FA (pre ++ (#[.int .i64 t, .int .i64 m, .slice a roots.length c] ++ post)) w (LaidPost I F w S k t m roots)
  force : ∀ {F : List Nat} {w : World} {S : St} {k : Nat} (a : Option Addr) (c : Nat) (roots : List Int), I w F S k → k < 1000 → w.ownsRow 0 49 1 (.slice a roots.length c) roots.length (words roots) →
    roots.length ≤ 1000000 → (∀ x ∈ roots, Wd x) → (∀ b, (Value.slice a roots.length c).ownBlock = some b → b ∉ F) → Calls Try.prog FF (rF.push (.slice a roots.length c)) w (ForcedPost I F w S k roots)
  get : ∀ {F : List Nat} {w : World} {S : St} {k : Nat} (x i : Int), I w F S k → Wd x → Calls Try.prog FG (rG ++ #[.int .u64 x, .int .i64 i]) w fun e w' => e = .returned (.tuple #[.int .u64 (S.get x i).1, .int .i64 (S.get x i).2]) ∧ ∃ n, w' = w.drewN n
  size : ∀ {F : List Nat} {w : World} {S : St} {k : Nat} (x : Int), I w F S k → Wd x → Calls Try.prog FZ (rG.push (.int .u64 x)) w fun e w' => e = .returned (.int .i64 (S.sizeOf x)) ∧ ∃ n, w' = w.drewN n
  set : ∀ {F : List Nat} {w : World} {S : St} {k : Nat} (x i v : Int), I w F S k → Wd x → Wd v → Calls Try.prog FS (rG ++ #[.int .u64 x, .int .i64 i, .int .u64 v]) w (SetPost I F w S k x i v)

/-! ### the steps in memory -/

def stpAt (l : List Stp) (k : Nat) : Stp := l.getD k ⟨0, 0, 0, 0⟩

theorem stpAt_get {l : List Stp} {k : Nat} (h : k < l.length) : l[k]? = some (stpAt l k) := by
  unfold stpAt; rw [List.getD_eq_getElem?_getD, List.getElem?_eq_getElem h]; rfl

structure Stp.ok (s : Stp) : Prop where
  k : -9223372036854775808 ≤ s.kind ∧ s.kind ≤ 9223372036854775807
  a : -9223372036854775808 ≤ s.a ∧ s.a ≤ 9223372036854775807
  b : -9223372036854775808 ≤ s.b ∧ s.b ≤ 9223372036854775807
  c : -9223372036854775808 ≤ s.c ∧ s.c ≤ 9223372036854775807

/-- a slice that reads as these steps -/
def RdS (w : World) (A : Option Addr) (l : List Stp) : Prop := ∀ k, k < l.length → ∃ a, A = some a ∧ a.block < w.heap.size ∧
  w.cell? (a.add (k * 4)) = some (.int .i64 (stpAt l k).kind) ∧ w.cell? ⟨(a.add (k * 4)).block, (a.add (k * 4)).off + 1, none⟩ = some (.int .i64 (stpAt l k).a) ∧
  w.cell? ⟨(a.add (k * 4)).block, (a.add (k * 4)).off + 2, none⟩ = some (.int .i64 (stpAt l k).b) ∧ w.cell? ⟨(a.add (k * 4)).block, (a.add (k * 4)).off + 3, none⟩ = some (.int .i64 (stpAt l k).c)

/-! ### plain -/

theorem playP_snoc (forced : Bool) : ∀ (l : List Stp) (T : Pl) (s : Stp), (playP forced T (l ++ [s])).1 = (stepF forced (playP forced T l).1 s).1 ∧ (playP forced T (l ++ [s])).2 = (playP forced T l).2 ++ [(stepF forced (playP forced T l).1 s).2]
  | [], _, _ => ⟨rfl, rfl⟩
  | x :: l, T, s => by
    obtain ⟨h1, h2⟩ := playP_snoc forced l (stepF forced T x).1 s
    refine ⟨h1, ?_⟩
    show (stepF forced T x).2 :: (playP forced (stepF forced T x).1 (l ++ [s])).2 = ((stepF forced T x).2 :: (playP forced (stepF forced T x).1 l).2) ++ _
    rw [h2]; rfl

/-- the play behind k steps -/
def plK (forced : Bool) (n : Nat) (l : List Stp) (k : Nat) : Pl := (playP forced (startP n) (l.take k)).1
def erK (forced : Bool) (n : Nat) (l : List Stp) (k : Nat) : List Int := (playP forced (startP n) (l.take k)).2

theorem plK_succ (forced : Bool) (n : Nat) {l : List Stp} {k : Nat} (h : k < l.length) : plK forced n l (k + 1) = (stepF forced (plK forced n l k) (stpAt l k)).1 ∧ erK forced n l (k + 1) = erK forced n l k ++ [(stepF forced (plK forced n l k) (stpAt l k)).2] := by
  have e : l.take (k + 1) = l.take k ++ [stpAt l k] := by
    rw [List.take_add_one, stpAt_get h]; rfl
  unfold plK erK
  rw [e]
  exact playP_snoc forced _ _ _

theorem wd_one : Wd 1 := by unfold Wd; omega

/-- all held is a word, and there are eight -/
structure Hld (T : Pl) : Prop where
  len : T.held.length = 8
  wd : ∀ x ∈ T.held, Wd x

theorem ptr_wd {a : Nat} (h : a ≤ 65536) : Wd (ptr a) := by unfold ptr Wd; omega

theorem now_wd {S : St} (hS : S.ok) {roots : List Int} (hr : ∀ x ∈ roots, Wd x) : ∀ x ∈ S.now roots, Wd x := by
  intro x hx
  obtain ⟨y, hy, rfl⟩ := List.mem_map.1 hx
  cases hf : S.find y with
  | none => rw [mv_none hf]; exact hr y hy
  | some p =>
    obtain ⟨i, d⟩ := p
    rw [mv_lead hf]
    have hg := good_reach S roots
    have hm := root_mem hy hf
    obtain ⟨hk, hik⟩ := idx_get hm
    obtain ⟨_, b, hb, _, hd⟩ := (find_iff S y i d).1 hf
    have hle := dist_le hd
    have hlt := find_lt hf
    have hbi : S.blk i = b := by have := blk_get hlt; rw [hb] at this; simpa using this.symm
    have h1 := moved_pos S (S.reach roots) ((S.reach roots).idxOf i)
    have hk' : (S.reach roots).idxOf i < (moved S (S.reach roots)).L.length := by simp [moved, hk]
    have h2 := pos_le (moved_ok hS hg) hk'
    have h3 : ((moved S (S.reach roots)).blk ((S.reach roots).idxOf i)).fs.length = b.fs.length := by
      have := coll_size (S := S) (roots := roots) hk
      unfold St.coll at this
      rw [this, hik, hbi]
    rw [h3] at h2
    rw [← h1]
    exact ptr_wd (by omega)

theorem force_hld {T : Pl} (hS : T.st.ok) (H : Hld T) : Hld T.force :=
  ⟨by unfold Pl.force St.now; rw [List.length_map]; exact H.len, now_wd hS H.wd⟩

theorem set_wd {l : List Int} (h : ∀ x ∈ l, Wd x) {v : Int} (hv : Wd v) (j : Nat) : ∀ x ∈ l.set j v, Wd x := mem_set_wd h j hv

theorem layWord_wd {S : St} (hS : S.ok) (t m : Int) : Wd (layWord S t m) := by
  unfold layWord
  have h1 := base_le hS
  have h2 := hS.fit
  have h3 := hS.n3
  have h4 : S.top = S.base + span S.L := rfl
  split
  · unfold Wd; omega
  · unfold Wd; omega

theorem numWord_wd (n : Int) : Wd (numWord n) := by unfold numWord w64 Wd; omega

theorem get_wd {S : St} (hb : ∀ b ∈ S.L, b.ok) (x i : Int) : Wd (S.get x i).1 := by
  unfold St.get
  cases hf : S.find x with
  | none => dsimp only; unfold Wd; omega
  | some p =>
    dsimp only
    split
    · dsimp only; unfold Wd; omega
    · rename_i hi
      have hlt := find_lt hf
      exact (hb _ (List.mem_of_getElem? (blk_get hlt))).words _ (wat_mem (by omega))

theorem alloc_hld {T : Pl} (hS : T.st.ok) (H : Hld T) (t m : Int) {l : List Int} (hl : (memAlloc T.st t m T.held).roots = some l) : l.length = 8 ∧ (∀ x ∈ l, Wd x) ∧ Wd (memAlloc T.st t m T.held).word := by
  unfold memAlloc at hl ⊢
  by_cases h0 : allocErr T.st t m = 0
  · rw [if_pos h0] at hl ⊢
    cases hl
    exact ⟨H.len, H.wd, layWord_wd hS t m⟩
  · rw [if_neg h0] at hl ⊢
    by_cases h1 : allocErr T.st t m ≠ 10
    · rw [if_pos h1] at hl; cases hl
    · rw [if_neg h1] at hl ⊢
      by_cases h2 : (T.st.n : Int) < (T.st.cells T.held : Int) + m + 1
      · rw [if_pos h2] at hl; cases hl
      · rw [if_neg h2] at hl ⊢
        cases hl
        exact ⟨by unfold St.now; rw [List.length_map]; exact H.len, now_wd hS H.wd, layWord_wd (coll_ok hS _) t m⟩

end Go.Proofs.Ytleoedjjepkhgaa
