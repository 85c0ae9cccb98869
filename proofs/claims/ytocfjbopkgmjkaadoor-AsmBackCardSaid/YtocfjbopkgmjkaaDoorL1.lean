/- What is known of the package variables, and the library's functions. -/
import Derived.Test.YtocfjbopkgmjkaaDoorTy
import Derived.Test.YtocfjbopkgmjkaaDoorShelf
import Derived.Lib.AppendIntMem
import Derived.Test.YtocfjbopkgmjkaaDoorY20
set_option linter.unusedVariables false
set_option linter.unusedSimpArgs false
set_option linter.unusedSectionVars false
namespace Go.Proofs.YtocfjbopkgmjkaaDoor.W
open Go Go.Sy Go.RowKit

structure GK (K : KH) : Prop where
 maxLen : ∃ m : Int, K 1 = some #[.int .i64 m]
 pow10 : K 5 = some (Lib.pow10Tab.map fun z => Value.int .u64 z).toArray
 space : K 0 = some (Lib.asciiSpaceTab.map fun z => Value.int .u8 z).toArray
 syn : ∃ t v, K 3 = some #[.iface t v]
 rng : ∃ t v, K 4 = some #[.iface t v]
instance globs : Globs where
  G := GK
  mono := fun h g => {
   maxLen := g.maxLen.imp fun _ hm => h _ _ hm
   pow10 := h _ _ g.pow10
   space := h _ _ g.space
   syn := g.syn.imp fun _ hm => hm.imp fun _ hv => h _ _ hv
   rng := g.rng.imp fun _ hm => hm.imp fun _ hv => h _ _ hv
    }

theorem varOf {K : KH} {w : World} {g : Nat} {n : String} {cur : Array Value} (hk : KIn K w) (hn : Tryd.prog.globalNamed n = some g) (h : K g = some cur) : w.var? Tryd.prog n = some cur := by
  obtain ⟨e, he⟩ := hk g cur h
  unfold World.var?
  rw [hn]
  simp only [Option.bind_some, he]
theorem cellOf {K : KH} {w : World} {g : Nat} {v : Value} (hk : KIn K w) (h : K g = some #[v]) : w.cell? ⟨g, 0, none⟩ = some v := by
  obtain ⟨e, he⟩ := hk g _ h
  simp [World.cell?, he]
theorem xk_bytes_below_ {w : World} {B : Nat} (hB : B ≤ w.heap.size) (e : TypeId) (t : ByteArray) : Below B w (Lib.bytesWorld w e t) := by
 have hb : Below B w (w.drew.alloc (.cells (Lib.bytesCells w e t) e)) := ((Below.refl B w).drew).alloc hB _
 unfold Lib.bytesWorld World.freeze
 rw [if_neg (by decide)]
 refine hb.trans ⟨rfl, rfl, rfl, by simp, fun k hk => ?_⟩
 simp only [Array.getElem?_modify]
 rw [if_neg (by omega)]
def bs (l : List UInt8) : ByteArray := ⟨l.toArray⟩
theorem bs_inv (s : ByteArray) : bs s.data.toList = s := by simp [bs]
theorem itoa_ (n : Int) (h0 : -9223372036854775808 ≤ n) (h1 : n ≤ 9223372036854775807) : Pure Tryd.prog 47 [i64 n] (str (bs (Lib.itoa n))) :=
 Pure.ofCalls [.int .i64 n] ⟨_, Tryd.func47, by kernel_rfl, by kernel_rfl⟩ fun K w hg hk => (Tryd.strconv_Itoa n h0 h1 w (varOf hk (by kernel_rfl) hg.pow10)).mono fun e w' ⟨he, k, os, hw⟩ => ⟨_, he, .atom _, by rw [hw]; exact Lib.below_grow _ _ (Nat.le_refl _) _ _⟩
theorem cut_ (s sep : ByteArray) (hs : s.size < 4294967281) : Pure Tryd.prog 42 [str s, str sep] (.atom (.tuple #[.string (bs (Lib.cut s.data.toList sep.data.toList).1), .string (bs (Lib.cut s.data.toList sep.data.toList).2.1), .bool (Lib.cut s.data.toList sep.data.toList).2.2])) :=
 Pure.ofCalls [.string s, .string sep] ⟨_, Tryd.func42, by kernel_rfl, by kernel_rfl⟩ fun K w hg hk => by
   obtain ⟨m, hm⟩ := hg.maxLen
   exact (Tryd.strings_Cut s sep m w hs (cellOf hk hm)).mono fun e w' ⟨he, n, hw⟩ => ⟨_, he, .atom _, by rw [hw]; exact ⟨rfl, rfl, rfl, Nat.le_refl _, fun _ _ => rfl⟩⟩
def splitL (s sep : ByteArray) : List ByteArray := Lib.splitB sep 0 (Lib.countB s sep) s
theorem split_ (s sep : ByteArray) (hs : s.size < 4294967281) (h1 : 1 ≤ sep.size) (hl : (splitL s sep).length = Lib.countB s sep + 1) (hm : Lib.countB s sep + 1 ≤ maxLen) : Pure Tryd.prog 39 [str s, str sep] (sl 1 eStr (splitL s sep)) :=
 Pure.ofStrs [.string s, .string sep] (splitL s sep) 9 ⟨_, Tryd.func39, by kernel_rfl, by kernel_rfl⟩ (by rw [hl]; exact hm) fun K w hg hk => by
   obtain ⟨m, hm⟩ := hg.maxLen
   exact (Tryd.strings_Split s sep m w hs (cellOf hk hm) h1).mono fun e w' ⟨he, hw⟩ => ⟨by rw [he, hl], hw⟩
def atoiP (s : ByteArray) : PV := match Lib.atoiAll s.data.toList with
 | .ok v => .tup [i64 v, .atom .nilIface]
 | .range => .tup [i64 (Lib.atoiSat s.data.toList), .iface 105 .any]
 | _ => .tup [i64 0, .iface 105 .any]
theorem tup2 {K : KH} {p q : PV} {a b : Value} (h1 : VR K σ0 0 p a) (h2 : VR K σ0 0 q b) : VR K σ0 0 (.tup [p, q]) (.tuple #[a, b]) := .tup rfl (fun j r hr => by
 rcases j with _ | _ | j
 · simp at hr; subst hr; exact h1
 · simp at hr; subst hr; exact h2
 · simp at hr)
theorem atoi_ (s : ByteArray) (hs : s.size ≤ 281474976710656) : Pure Tryd.prog 58 [str s] (atoiP s) :=
 Pure.ofCalls [.string s] ⟨_, Tryd.func58, by kernel_rfl, by kernel_rfl⟩ fun K w hg hk => by
   unfold atoiP
   cases hv : Lib.atoiAll s.data.toList with
   | ok v =>
     refine (Tryd.strconv_Atoi_ok s (by omega) v hv w).mono fun e w' ⟨he, hw⟩ => ⟨_, he, tup2 (.atom _) (.atom _), ?_⟩
     rcases hw with rfl | ⟨t, rfl⟩
     · exact Below.refl _ _
     · exact xk_bytes_below_ (Nat.le_refl _) _ _
   | range =>
     obtain ⟨t, v, hrng⟩ := hg.rng
     exact (Tryd.strconv_Atoi_range_var s hs hv t v w (varOf hk (by kernel_rfl) hrng)).mono fun e w' ⟨N, he, _, _, hb⟩ => ⟨_, he, tup2 (.atom _) (.iface (.any _)), hb⟩
   | _ =>
     obtain ⟨t, v, hsyn⟩ := hg.syn
     exact (Tryd.strconv_Atoi_syntax_var s hs hv t v w (varOf hk (by kernel_rfl) hsyn)).mono fun e w' ⟨N, he, _, _, hb⟩ => ⟨_, he, tup2 (.atom _) (.iface (.any _)), hb⟩
theorem fields_ (l : List UInt8) (hl : l.length < 4294967281) (ha : ∀ b ∈ l, b.toNat < 128) (hm : (Lib.fields l).length ≤ maxLen) : Pure Tryd.prog 66 [str (bs l)] (sl 1 eStr ((Lib.fields l).map bs)) :=
 Pure.ofStrs [.string (bs l)] ((Lib.fields l).map bs) 9 ⟨_, Tryd.func66, by kernel_rfl, by kernel_rfl⟩ (by rw [List.length_map]; exact hm) fun K w hg hk => by
   have hb : (bs l).data.toList = l := by simp [bs]
   have h := Tryd.strings_Fields (bs l) w (by simp [bs, ByteArray.size]; exact hl) (fun j b hj => ha b (by rw [hb] at hj; exact List.mem_of_getElem? hj)) (varOf hk (by kernel_rfl) hg.space)
   rw [hb] at h
   refine h.mono fun e w' ⟨he, hw⟩ => ⟨by rw [he, List.length_map], by rw [hw, List.map_map]; rfl⟩
end Go.Proofs.YtocfjbopkgmjkaaDoor.W
