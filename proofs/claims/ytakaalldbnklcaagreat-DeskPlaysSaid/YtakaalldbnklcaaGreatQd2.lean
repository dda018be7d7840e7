/-
  Plain facts: a list in strict order of its keys, beside a map that holds the same (kept apart from the program).
  Stores into an owned row of structs: one element set, cell by cell.
  append of one element, and where the row then lies.
  Rows that the call owns, told as slices; what is left of a range. No program, no condition.
  What a block is, by its type or as one of some maps: how books that lie side by side are told apart. No program, no condition.
  The library's sort at structs, told of a row that the call owns.
  A region that draws its order, walked once: every operation gives one value in every world of a class, and every call stays in the class.
  A range over a map, inside a fence: for the iterators of the library (maps.Keys, maps.Values).
  Plain words: a number's measure, the order of numbers, the place of the first that fits. No program.
  append of a whole slice, wherever it lies, to nil: a row of the call's own.
  cmp.Compare and cmp.Or of numbers, at any count.
  The closure of a library function, laid at this program (the numbers as the kit's command told them). No condition.
  A row with one more at its end, swapped down to its place: the facts of the loop. No program.
  A map's key that is a struct of two numbers of unlike types: the model's laws of it.
  Maps that the call itself made: 'm[k] op= v' (an entry found or made, then stored into).
  The closure of a library function, laid at this program (the numbers as the kit's command told them). No condition.
  The closure of a library function, laid at this program (the numbers as the kit's command told them). No condition.
-/
import Derived.Test.YtakaalldbnklcaaGreatQd1
import Derived.Laws.OwnMore
import Derived.Maps.AppendAt
import Derived.Shelf.GgSortFunc.InsertionK
import Derived.Sort.LotA
import Derived.Deep.DeepCutAuto
import Derived.Deep.CutRange
import Derived.Shelf.SlIterI.Sorted
import Derived.Deep.RegionHeld3
import Derived.Sort.Grow
import Derived.Shelf.SlLaysF0
import Derived.Test.YtakaalldbnklcaaGreatProg
import Derived.WideKeyEntry
import Derived.Shelf.SlLaysZI
namespace Go.Proofs.YtakaalldbnklcaaGreat
set_option linter.unusedVariables false
structure LinK {κ:Type} (lt:κ→κ→Bool):Prop where
 irrefl:∀ a,lt a a=false
 trans:∀ a b c,lt a b=true→lt b c=true→lt a c=true
 total:∀ a b,lt a b=false→lt b a=false→a=b
section
variable {α κ ν:Type} {key:α→κ} {lt:κ→κ→Bool} {toA:κ × ν→α}
def SortedK (key:α→κ) (lt:κ→κ→Bool) (r:List α):Prop:=r.Pairwise (fun a b=>lt (key a) (key b)=true)
theorem SortedK.perm_eq (L:LinK lt) {r s:List α} (h1:SortedK key lt r) (h2:SortedK key lt s) (hp:r.Perm s):r=s:=by
 refine List.Perm.eq_of_pairwise (le:=fun a b=>lt (key a) (key b)=true) (fun a b _ _ h g => ?_) h1 h2 hp
 have:=L.trans _ _ _ h g
 rw [L.irrefl] at this
 cases this
theorem SortedK.nodup (L:LinK lt) {r:List α} (h:SortedK key lt r):(r.map key).Nodup:=by
 refine List.pairwise_map.2 (h.imp ?_)
 intro a b hab e
 rw [e,L.irrefl] at hab
 cases hab
def posK (key:α→κ) (lt:κ→κ→Bool) (r:List α) (p:κ):Nat:=(r.takeWhile (fun y=>lt (key y) p)).length
theorem posK_le (r:List α) (p:κ):posK key lt r p≤r.length:=(List.takeWhile_sublist _).length_le
theorem posK_eq {r:List α} {p:κ} {k:Nat} (hk:k≤r.length) (h1:∀ j y,j < k→r[j]?=some y→lt (key y) p=true) (h2:∀ y,r[k]?=some y→lt (key y) p=false):posK key lt r p=k:=by
 unfold posK
 induction r generalizing k with
 | nil=>simp at hk; simp [hk]
 | cons y r ih =>
  cases k with
  | zero =>
   have:=h2 y rfl
   simp [this]
  | succ k =>
   have h0:=h1 0 y (by omega) rfl
   simp only [List.takeWhile_cons,h0,if_true,List.length_cons]
   congr 1
   exact ih (by simpa using hk) (fun j z hj hz=>h1 (j + 1) z (by omega) (by simpa using hz)) (fun z hz=>h2 z (by simpa using hz))
theorem posK_before {r:List α} {p:κ} {y:α} (h:y ∈ r.take (posK key lt r p)):lt (key y) p=true:=by
 unfold posK at h
 have e:r.take (r.takeWhile (fun y=>lt (key y) p)).length=r.takeWhile (fun y=>lt (key y) p):=by
  conv=>lhs; arg 2; rw [← List.takeWhile_append_dropWhile (p:=fun y=>lt (key y) p) (l:=r)]
  exact List.take_left
 rw [e] at h
 exact List.all_eq_true.1 (List.all_takeWhile (l:=r) (p:=fun y=>lt (key y) p)) y h
theorem posK_at {r:List α} {p:κ} {y:α} (h:r[posK key lt r p]?=some y):lt (key y) p=false:=by
 unfold posK at h
 have e:r.dropWhile (fun y=>lt (key y) p)=r.drop (r.takeWhile (fun y=>lt (key y) p)).length:=by
  conv=>rhs; arg 2; rw [← List.takeWhile_append_dropWhile (p:=fun y=>lt (key y) p) (l:=r)]
  exact List.drop_left.symm
 have h1:(r.dropWhile (fun y=>lt (key y) p))[0]?=some y:=by rw [e,List.getElem?_drop]; simpa using h
 cases hd:r.dropWhile (fun y=>lt (key y) p) with
 | nil=>rw [hd] at h1; simp at h1
 | cons z t =>
  rw [hd] at h1
  simp only [List.getElem?_cons_zero,Option.some.injEq] at h1
  subst h1
  have:=List.head?_dropWhile_not (fun y=>lt (key y) p) r
  rw [hd] at this
  simpa using this
def insK (key:α→κ) (lt:κ→κ→Bool) (r:List α) (e:α):List α:=r.take (posK key lt r (key e))++e :: r.drop (posK key lt r (key e))
theorem insK_sorted (L:LinK lt) {r:List α} {e:α} (h:SortedK key lt r) (hn:key e ∉ r.map key):SortedK key lt (insK key lt r e):=by
 have h0:SortedK key lt (r.take (posK key lt r (key e))++r.drop (posK key lt r (key e))):=by rw [List.take_append_drop]; exact h
 unfold SortedK at h0
 rw [List.pairwise_append] at h0
 obtain ⟨a,b,c⟩:=h0
 have hdr:∀ y ∈ r.drop (posK key lt r (key e)),lt (key e) (key y)=true:=by
  intro y hy
  cases hl:lt (key e) (key y) with
  | true=>rfl
  | false =>
   exfalso
   have hlt:posK key lt r (key e) < r.length:=by
    rcases Nat.lt_or_ge (posK key lt r (key e)) r.length with h | h
    ·exact h
    ·rw [List.drop_eq_nil_of_le h] at hy; cases hy
   have h1:=posK_at (key:=key) (lt:=lt) (r:=r) (p:=key e) (List.getElem?_eq_getElem hlt)
   have h2:lt (key e) (key r[posK key lt r (key e)])=true:=by
    cases hh:lt (key e) (key r[posK key lt r (key e)]) with
    | true=>rfl
    | false=>exact absurd (List.mem_map.2 ⟨_,List.getElem_mem hlt,(L.total _ _ h1 hh)⟩) hn
   rw [List.drop_eq_getElem_cons hlt] at hy b
   rcases List.mem_cons.1 hy with rfl | hy'
   ·rw [h2] at hl; cases hl
   ·have h3:=(List.pairwise_cons.1 b).1 y hy'
    have:=L.trans _ _ _ h2 h3
    rw [this] at hl; cases hl
 unfold SortedK insK
 rw [List.pairwise_append]
 refine ⟨a,List.pairwise_cons.2 ⟨hdr,b⟩,fun x hx y hy => ?_⟩
 rcases List.mem_cons.1 hy with rfl | hy'
 ·exact posK_before hx
 ·exact c x hx y hy'
theorem insK_perm (r:List α) (e:α):(insK key lt r e).Perm (e :: r):=by
 unfold insK
 have:=List.perm_middle (a:=e) (l₁:=r.take (posK key lt r (key e))) (l₂:=r.drop (posK key lt r (key e)))
 rw [List.take_append_drop] at this
 exact this
theorem insK_length (r:List α) (e:α):(insK key lt r e).length=r.length + 1:=(insK_perm r e).length_eq
section
variable [DecidableEq κ]
def updK (key:α→κ) (r:List α) (e:α):List α:=r.map (fun y=>if key y=key e then e else y)
theorem updK_length (r:List α) (e:α):(updK key r e).length=r.length:=by simp [updK]
theorem updK_sorted {r:List α} {e:α} (h:SortedK key lt r):SortedK key lt (updK key r e):=by
 unfold SortedK updK
 rw [List.pairwise_map]
 have hk:∀ y:α,key (if key y=key e then e else y)=key y:=fun y=>by split <;> simp_all
 refine h.imp ?_
 intro a b hab
 rw [hk,hk]; exact hab
theorem updK_set (L:LinK lt) {r:List α} {e:α} (h:SortedK key lt r) {k:Nat} {y:α} (hk:r[k]?=some y) (hy:key y=key e):updK key r e=r.set k e:=by
 unfold updK
 apply List.ext_getElem?
 intro i
 rw [List.getElem?_map,List.getElem?_set]
 have hkl:=(List.getElem?_eq_some_iff.1 hk).1
 by_cases hik:k=i
 ·subst hik
  rw [hk]
  simp [hy,hkl]
 ·rw [if_neg hik]
  cases hi:r[i]? with
  | none=>rfl
  | some z =>
   have:¬ key z=key e:=by
    intro hz
    have h1:(r.map key)[i]?=some (key e):=by rw [List.getElem?_map,hi]; simp [hz]
    have h2:(r.map key)[k]?=some (key e):=by rw [List.getElem?_map,hk]; simp [hy]
    exact hik ((List.getElem?_inj (by simpa using hkl) (h.nodup L)).1 (h2.trans h1.symm))
   simp [this]
structure RelK (key:α→κ) (lt:κ→κ→Bool) (toA:κ × ν→α) (m:List (κ × ν)) (r:List α):Prop where
 nd:(m.map (·.1)).Nodup
 sorted:SortedK key lt r
 perm:r.Perm (m.map toA)
 keys:∀ q:κ × ν,key (toA q)=q.1
omit [DecidableEq κ] in
theorem RelK.nil (h:∀ q:κ × ν,key (toA q)=q.1):RelK key lt toA [] []:=⟨by simp,List.Pairwise.nil,List.Perm.refl _,h⟩
omit [DecidableEq κ] in
theorem RelK.len {m:List (κ × ν)} {r:List α} (h:RelK key lt toA m r):r.length=m.length:=by have:=h.perm.length_eq; simpa using this
omit [DecidableEq κ] in
theorem RelK.keysPerm {m:List (κ × ν)} {r:List α} (h:RelK key lt toA m r):(r.map key).Perm (m.map (·.1)):=by
 have:=h.perm.map key
 rw [List.map_map] at this
 rw [show m.map (·.1)=m.map (key ∘ toA) from List.map_congr_left fun q _=>(h.keys q).symm]
 exact this
theorem RelK.mem {m:List (κ × ν)} {r:List α} (h:RelK key lt toA m r) {y:α} (hy:y ∈ r):∃ v,mget m (key y)=some v∧y=toA (key y,v):=by
 obtain ⟨q,hq,rfl⟩:=List.mem_map.1 (h.perm.mem_iff.1 hy)
 refine ⟨q.2, ?_, ?_⟩
 ·rw [h.keys]; exact mget_of_mem h.nd hq
 ·rw [h.keys]
theorem RelK.of_get {m:List (κ × ν)} {r:List α} (h:RelK key lt toA m r) {p:κ} {v:ν} (hg:mget m p=some v):toA (p,v) ∈ r:=h.perm.mem_iff.2 (List.mem_map.2 ⟨_,mget_mem hg,rfl⟩)
theorem RelK.none {m:List (κ × ν)} {r:List α} (h:RelK key lt toA m r) {p:κ}:p ∉ r.map key ↔ mget m p=none:=by
 rw [h.keysPerm.mem_iff]
 constructor
 ·exact mget_none
 ·intro hn hin
  have:=mget_isSome.2 hin
  rw [hn] at this
  cases this
theorem RelK.at_ (L:LinK lt) {m:List (κ × ν)} {r:List α} (h:RelK key lt toA m r) (p:κ) :
  (∃ v,mget m p=some v∧r[posK key lt r p]?=some (toA (p,v)))∨(mget m p=Option.none∧∀ y,r[posK key lt r p]?=some y→key y ≠ p):=by
 cases hg:mget m p with
 | none =>
  right
  refine ⟨rfl,fun y hy e => ?_⟩
  exact h.none.2 hg (List.mem_map.2 ⟨y,List.mem_of_getElem? hy,e⟩)
 | some v =>
  left
  refine ⟨v,rfl, ?_⟩
  obtain ⟨i,hi⟩:=List.mem_iff_getElem?.1 (h.of_get hg)
  have hil:=(List.getElem?_eq_some_iff.1 hi).1
  have:posK key lt r p=i:=by
   refine posK_eq (by omega) (fun j y hj hy => ?_) (fun y hy => ?_)
   ·have hjl:j < r.length:=by omega
    have:=(List.pairwise_iff_getElem.1 h.sorted) j i hjl hil hj
    rw [(List.getElem?_eq_some_iff.1 hy).2,(List.getElem?_eq_some_iff.1 hi).2,h.keys] at this
    exact this
   ·rw [hi] at hy
    injection hy with hy
    rw [← hy,h.keys]
    exact L.irrefl _
  rw [this]; exact hi
theorem RelK.ins (L:LinK lt) {m:List (κ × ν)} {r:List α} (h:RelK key lt toA m r) {p:κ} (v:ν) (hn:mget m p=Option.none):RelK key lt toA (mset m p v) (insK key lt r (toA (p,v))):=by
 have hk:key (toA (p,v))=p:=h.keys _
 refine ⟨mset_nodup h.nd _ _,insK_sorted L h.sorted (by rw [hk]; exact h.none.2 hn), ?_,h.keys⟩
 rw [mset_new hn,List.map_append]
 refine (insK_perm r _).trans ?_
 refine (h.perm.cons _).trans ?_
 exact (List.perm_append_singleton (toA (p,v)) (m.map toA)).symm
theorem RelK.upd {m:List (κ × ν)} {r:List α} (h:RelK key lt toA m r) {p:κ} (v:ν) {v0:ν} (hn:mget m p=some v0):RelK key lt toA (mset m p v) (updK key r (toA (p,v))):=by
 have hk:key (toA (p,v))=p:=h.keys _
 refine ⟨mset_nodup h.nd _ _,updK_sorted h.sorted, ?_,h.keys⟩
 have hin:p ∈ m.map (·.1):=mget_isSome.1 (by rw [hn]; rfl)
 unfold mset updK
 rw [if_pos hin]
 refine (h.perm.map _).trans (List.Perm.of_eq ?_)
 rw [List.map_map,List.map_map]
 refine List.map_congr_left fun q _ => ?_
 simp only [Function.comp,hk,h.keys]
 split <;> rfl
theorem RelK.del {m:List (κ × ν)} {r:List α} (h:RelK key lt toA m r) (p:κ):RelK key lt toA (mdel m p) (r.filter (fun y=>decide (key y ≠ p))):=by
 refine ⟨mdel_nodup h.nd _,h.sorted.sublist List.filter_sublist, ?_,h.keys⟩
 refine (h.perm.filter _).trans (List.Perm.of_eq ?_)
 unfold mdel
 rw [List.filter_map]
 congr 1
 refine List.filter_congr fun q _ => ?_
 simp [Function.comp,h.keys]
omit [DecidableEq κ] in
theorem RelK.unique (L:LinK lt) {m:List (κ × ν)} {r l:List α} (h:RelK key lt toA m r) (hp:l.Perm (m.map toA)) (hs:SortedK key lt l):l=r:=hs.perm_eq L h.sorted (hp.trans h.perm.symm)
omit [DecidableEq κ] in
theorem sortedK_of (L:LinK lt) {l:List α} (hd:(l.map key).Nodup) (hs:l.Pairwise (fun a b=>lt (key b) (key a)=false)):SortedK key lt l:=by
 have hd2:l.Pairwise (fun a b=>key a ≠ key b):=List.pairwise_map.1 hd
 refine (hs.and hd2).imp ?_
 rintro a b ⟨h1,h2⟩
 cases h3:lt (key a) (key b) with
 | true=>rfl
 | false=>exact absurd (L.total _ _ h3 h1) h2
omit [DecidableEq κ] in
theorem RelK.unique' (L:LinK lt) {m:List (κ × ν)} {r l:List α} (h:RelK key lt toA m r) (hp:l.Perm (m.map toA)) (hs:l.Pairwise (fun a b=>lt (key b) (key a)=false)):l=r:=by
 refine h.unique L hp (sortedK_of L ?_ hs)
 have:=(hp.trans h.perm.symm).map key
 exact this.nodup_iff.2 (h.sorted.nodup L)
end
end
end Go.Proofs.YtakaalldbnklcaaGreat
namespace Go.Proofs.YtakaalldbnklcaaGreat
open Go.RowKit Go.ChangeShapes Go.WideShapes Go.ChangeAt Go.Deep
set_option linter.unusedVariables false
def setMany (xs:List Value) (o:Nat):List Value→List Value
 | []=>xs
 | c :: cs=>setMany (xs.set o c) (o + 1) cs
def storeMany (w:World) (g o:Nat):List Value→World
 | []=>w
 | c :: cs=>storeMany (w.setCell ⟨g,o,none⟩ c) g (o + 1) cs
theorem setMany_append_right (a b:List Value) (o:Nat) (cs:List Value) (h:a.length≤o):setMany (a++b) o cs=a++setMany b (o - a.length) cs:=by
 induction cs generalizing b o with
 | nil=>rfl
 | cons c cs ih =>
  simp only [setMany]
  rw [List.set_append_right _ _ h,ih _ _ (by omega),show o + 1 - a.length=o - a.length + 1 from by omega]
theorem setMany_front (xs:List Value):∀ (ys rest done:List Value),xs.length=ys.length→setMany (done++(xs++rest)) done.length ys=done++(ys++rest):=by
 intro ys
 induction ys generalizing xs with
 | nil=>intro rest done h; cases xs with
  | nil=>rfl
  | cons x xs=>simp at h
 | cons y ys ih =>
  intro rest done h
  cases xs with
  | nil=>simp at h
  | cons x xs =>
   simp only [setMany]
   rw [List.set_append_right _ _ (Nat.le_refl _),Nat.sub_self,List.cons_append,List.set_cons_zero]
   have:=ih xs rest (done++[y]) (by simpa using h)
   simp only [List.length_append,List.length_cons,List.length_nil,List.append_assoc,List.cons_append,List.nil_append] at this
   exact this
theorem setMany_flat {α:Type} (enc:α→List Value) (s:Nat) (hs:∀ x,(enc x).length=s) (l:List α) (k:Nat) (x:α) (hk:k < l.length):setMany (l.flatMap enc) (k * s) (enc x)=(l.set k x).flatMap enc:=by
 induction l generalizing k with
 | nil=>simp at hk
 | cons y l ih =>
  cases k with
  | zero =>
   simp only [List.flatMap_cons,Nat.zero_mul,List.set_cons_zero]
   exact setMany_front (enc y) (enc x) (l.flatMap enc) [] (by rw [hs,hs])
  | succ k =>
   simp only [List.flatMap_cons,List.set_cons_succ]
   rw [setMany_append_right _ _ _ _ (by rw [hs,Nat.succ_mul]; omega),hs,show (k + 1) * s - s=k * s from by rw [Nat.succ_mul]; omega,ih k (by simpa using hk)]
theorem set_flat {α:Type} (enc:α→List Value) (s:Nat) (hs:∀ x,(enc x).length=s) (l:List α) (k j:Nat) (x:α) (v:Value) (hk:l[k]?=some x) (hj:j < s) (x':α) (hx:enc x'=(enc x).set j v):(l.flatMap enc).set (k * s + j) v=(l.set k x').flatMap enc:=by
 induction l generalizing k with
 | nil=>simp at hk
 | cons y l ih =>
  cases k with
  | zero =>
   simp only [List.getElem?_cons_zero,Option.some.injEq] at hk
   subst hk
   simp only [List.flatMap_cons,Nat.zero_mul,Nat.zero_add,List.set_cons_zero,hx]
   rw [List.set_append_left _ _ (by rw [hs]; exact hj)]
  | succ k =>
   simp only [List.getElem?_cons_succ] at hk
   simp only [List.flatMap_cons,List.set_cons_succ]
   rw [List.set_append_right _ _ (by rw [hs,Nat.succ_mul]; omega),hs,show (k + 1) * s + j - s=k * s + j from by rw [Nat.succ_mul]; omega,ih k hk]
theorem grown_refl (w:World) (r:Option Nat):w.grownBy w r:=⟨rfl,rfl,rfl,Nat.le_refl _,fun _ _ _=>rfl⟩
theorem own_storeMany {w:World} {base:Nat} {e:TypeId} {size n cap g:Nat} {xs:List Value} (h:w.ownsRow base e size (.slice (some ⟨g,0,none⟩) n cap) n xs) (o:Nat) (cs:List Value) :
  (storeMany w g o cs).ownsRow base e size (.slice (some ⟨g,0,none⟩) n cap) n (setMany xs o cs)∧w.grownBy (storeMany w g o cs) (some g):=by
 induction cs generalizing w xs o with
 | nil=>exact ⟨h,grown_refl _ _⟩
 | cons c cs ih =>
  obtain ⟨h1,h2⟩:=h.stored o c
  obtain ⟨h3,h4⟩:=ih h1 (o + 1)
  exact ⟨h3,grown_trans h2 h4⟩
theorem own_set {α:Type} {enc:α→List Value} {w:World} {base:Nat} {e:TypeId} {s cap g:Nat} {l:List α} (hs:∀ x,(enc x).length=s) (h:w.ownsRow base e s (.slice (some ⟨g,0,none⟩) l.length cap) l.length (l.flatMap enc)) {k:Nat} (hk:k < l.length) (x:α) :
  (storeMany w g (k * s) (enc x)).ownsRow base e s (.slice (some ⟨g,0,none⟩) (l.set k x).length cap) (l.set k x).length ((l.set k x).flatMap enc)∧w.grownBy (storeMany w g (k * s) (enc x)) (some g):=by
 obtain ⟨h1,h2⟩:=own_storeMany h (k * s) (enc x)
 rw [setMany_flat enc s hs l k x hk] at h1
 rw [List.length_set]
 exact ⟨h1,h2⟩
theorem own_field {α:Type} {enc:α→List Value} {w:World} {base:Nat} {e:TypeId} {s cap g:Nat} {l:List α} (hs:∀ x,(enc x).length=s) (h:w.ownsRow base e s (.slice (some ⟨g,0,none⟩) l.length cap) l.length (l.flatMap enc)) {k j:Nat} {x:α} (hk:l[k]?=some x) (hj:j < s) (v:Value) (x':α) (hx:enc x'=(enc x).set j v) :
  (w.setCell ⟨g,k * s + j,none⟩ v).ownsRow base e s (.slice (some ⟨g,0,none⟩) (l.set k x').length cap) (l.set k x').length ((l.set k x').flatMap enc)∧w.grownBy (w.setCell ⟨g,k * s + j,none⟩ v) (some g):=by
 obtain ⟨h1,h2⟩:=h.stored (k * s + j) v
 rw [set_flat enc s hs l k j x v hk hj x' hx] at h1
 rw [List.length_set]
 exact ⟨h1,h2⟩
theorem own_form {α:Type} {enc:α→List Value} {w:World} {base:Nat} {e:TypeId} {s:Nat} {v:Value} {l:List α} (h:w.ownsRow base e s v l.length (l.flatMap enc)) (hl:0 < l.length) :
  ∃ g cap,v = .slice (some ⟨g,0,none⟩) l.length cap∧base≤g∧g < w.heap.size:=by
 rcases h.2 with ⟨_,h0⟩ | ⟨g,cap,cur,rfl,hb,hg,_⟩
 ·omega
 ·exact ⟨g,cap,rfl,hb,(Array.getElem?_eq_some_iff.1 hg).1⟩
theorem own_cells {α:Type} {enc:α→List Value} {w:World} {base:Nat} {e:TypeId} {s n cap g:Nat} {l:List α} (hs:∀ x,(enc x).length=s) (h:w.ownsRow base e s (.slice (some ⟨g,0,none⟩) n cap) l.length (l.flatMap enc)) {k:Nat} {x:α} (hk:l[k]?=some x) {j:Nat} {u:Value} (hu:(enc x)[j]?=some u) :
  w.cell? ⟨g,k * s + j,none⟩=some u:=by
 have:=h.cells (g:=g) rfl (k * s + j) u (by rw [getElem?_flatMap enc s hs l k x hk j (by rw [← hs x]; exact (List.getElem?_eq_some_iff.1 hu).1)]; exact hu)
 rw [add_plain,Nat.zero_add] at this
 exact this
theorem own_free {w:World} {base:Nat} {e:TypeId} {s n cap g m:Nat} {xs:List Value} (h:w.ownsRow base e s (.slice (some ⟨g,0,none⟩) n cap) m xs) (i:Nat):w.frozen? ⟨g,i,none⟩=false:=by
 rcases h.2 with ⟨h',_⟩ | ⟨g',cap',cur,h',hb,hg,_⟩
 ·simp at h'
 ·simp only [Value.slice.injEq,Option.some.injEq,Addr.mk.injEq,and_true] at h'
  obtain ⟨rfl,_⟩:=h'
  simp [World.frozen?,hg]
end Go.Proofs.YtakaalldbnklcaaGreat
namespace Go.Proofs.YtakaalldbnklcaaGreat
open Go.RowKit Go.ChangeShapes Go.WideShapes Go.ChangeAt Go.Deep
set_option linter.unusedVariables false
theorem wpList_push_at {P:Program} {ops:Array Oper} {rest:List Oper} {o:Oper} {a:Act} {Q:Exit→Act→World→Prop} (w:World) (hgd:o.guard=none) (s x:Operand) (t:TypeId)
  (ho:o.op = .call { callee:=.builtin .append,args:=#[s,x],argTypes:=#[t,t] })
  (base:Nat) (e:TypeId) (i:TypeInfo) (z:Value) (size bytes:Nat) (ht:P.underlying t=some (.slice e)) (hi:P.info? e=some i) (hz:i.zero=some z)
  (hsize:i.size=size) (hby:i.bytes=bytes) (hzs:z.cells.size=size) (hsz:0 < size)
  (v:Value) (n:Nat) (xs:List Value) (hs:a.eval s=v) (hown:w.ownsRow base e size v n xs) (cs:Array Value) (g:Nat) (hg:g=w.heap.size)
  (hx:a.eval x = .slice (some ⟨g,0,none⟩) 1 1) (hl:cs.size=size) (h1:cs.toList.all Value.oneCell'=true)
  (hn:n + 1≤maxLen) (hb:(n + 1) * bytes≤140737488355328) (hbase:base≤w.heap.size)
  (h:∀ v' w',w'.ownsRow base e size v' (n + 1) (xs++cs.toList)→(w.alloc (.cells cs e)).grownBy w' v.ownBlock→(v'.ownBlock=v.ownBlock∨v'.ownBlock=some (w.heap.size + 1))→wpList P ops Q rest (a.put o.dst v') w') :
  wpList P ops Q (o :: rest) a (w.alloc (.cells cs e)):=by
 subst hg
 refine wpList_append_own_at _ hgd s x t ho base e i z size bytes ht hi hz hsize hby hzs hsz v n xs hs (hown.alloc _) ⟨w.heap.size,0,none⟩ 1 1 cs.toList hx (by simp [hl]) ?_ (List.all_eq_true.1 h1) hn hb (by simp; omega) (fun v' w' h2 h3 _ h5=>h v' w' h2 h3 (by simpa using h5))
 intro j u hu
 rw [add_plain,Nat.zero_add,cell_of_row _ _ _ cs e (0,0) (heap_alloc_new w _)]
 simpa using hu
theorem touch_row {S:Nat→Prop} {w w':World} {row:Option Nat} (hg:w.grownBy w' row) (h:∀ k,row=some k→S k):Touch S w w' :=
 ⟨hg.os,hg.tape,hg.output,hg.size,fun k hk hn=>hg.block k hk (fun e=>hn (h k e.symm))⟩
def RT (n R:Nat) (A:Option Addr):Nat→Prop:=fun k=>k=R∨A.map (·.block)=some k∨n≤k
end Go.Proofs.YtakaalldbnklcaaGreat
namespace Go.Proofs.YtakaalldbnklcaaGreat
open Go.RowKit Go.MapKept Go.ChangeMaps Go.WideShapes Go.ChangeShapes Go.ChangeAt Go.Deep
set_option linter.unusedVariables false
theorem IsIter.left_len {κ ν:Type} {w:World} {r B:Nat} {kE:κ→Value} {vE:ν→Value} {m left:List (κ × ν)} (h:IsIter w r B kE vE m left):w.rangeLeft B r=left.length:=by
 obtain ⟨es,clock,since,c0,seen,hb,hr,_,_,_,_,_,hit,rfl⟩:=h
 have hl:es.length=m.length:=by have:=congrArg List.length hr; simpa using this
 simp only [World.rangeLeft,hb,hit,leftOf]
 unfold toCome
 rw [List.length_map]
 have e1:=zip_fst (m:=m) hl
 have e2:(Array.filter (fun e => !seen.contains e.born) es.toArray).size=(es.filter fun e => !seen.contains e.born).length:=by simp
 rw [e2]
 conv=>lhs; rw [← e1,List.filter_map,List.length_map]
 rfl
theorem own_slice {w:World} {base:Nat} {e:TypeId} {size:Nat} {v:Value} {n:Nat} {xs:List Value} (h:w.ownsRow base e size v n xs):∃ A cap,v = .slice A n cap∧Rd w A xs:=by
 have h0:=h
 obtain ⟨hl,h1 | ⟨g,cap,cur,rfl,_,hh,hn,_⟩⟩:=h
 ·obtain ⟨rfl,rfl⟩:=h1
  exact ⟨none,0,rfl,.inl (List.eq_nil_of_length_eq_zero (by simpa using hl))⟩
 ·refine ⟨_,cap,rfl, ?_⟩
  rcases xs with _ | ⟨x,xs⟩
  ·exact .inl rfl
  ·right
   refine ⟨g,0,rfl,(Array.getElem?_eq_some_iff.1 hh).1,fun j u hu => ?_⟩
   have:=h0.cells (g:=g) rfl j u hu
   rw [add_plain] at this
   exact this
theorem own_rd {w:World} {base n cap m:Nat} {e:TypeId} {size:Nat} {A:Option Addr} {xs:List Value} (h:w.ownsRow base e size (.slice A n cap) m xs):Rd w A xs:=by
 obtain ⟨A1,c1,e,hr⟩:=own_slice h
 injection e with e1 _ _
 rw [e1]; exact hr
def NewRowOf {α:Type} (enc:α→List Value) (t:TypeId) (s:Nat) (r:List α) (w:World) (e:Ending) (w':World):Prop:=∃ A cap,e = .returned (.slice A r.length cap)∧w'.ownsRow w.heap.size t s (.slice A r.length cap) r.length (r.flatMap enc)∧Below w.heap.size w w'
theorem Rd.take {α:Type} {enc:α→List Value} {w:World} {A:Option Addr} {l:List α} (h:Rd w A (l.flatMap enc)) (k:Nat):Rd w A ((l.take k).flatMap enc):=by
 rcases h with h0 | ⟨b,off,hA,hlt,hc⟩
 ·left
  have:l.flatMap enc=(l.take k).flatMap enc++(l.drop k).flatMap enc:=by rw [← List.flatMap_append,List.take_append_drop]
  rw [this] at h0
  exact (List.append_eq_nil_iff.1 h0).1
 ·right
  refine ⟨b,off,hA,hlt,fun j u hu=>hc j u ?_⟩
  have e1:l.flatMap enc=(l.take k).flatMap enc++(l.drop k).flatMap enc:=by rw [← List.flatMap_append,List.take_append_drop]
  rw [e1,List.getElem?_append_left (List.getElem?_eq_some_iff.1 hu).1]
  exact hu
theorem own_touch {S:Nat→Prop} {w w':World} {base:Nat} {e:TypeId} {size:Nat} {v:Value} {n:Nat} {xs:List Value} (h:w.ownsRow base e size v n xs) (ht:Touch S w w') (hS:∀ g,v.ownBlock=some g→¬ S g):w'.ownsRow base e size v n xs:=by
 obtain ⟨hl,h1 | ⟨g,cap,cur,rfl,hb,hh,hr⟩⟩:=h
 ·exact ⟨hl,.inl h1⟩
 ·exact ⟨hl,.inr ⟨g,cap,cur,rfl,hb,(ht.block g (Array.getElem?_eq_some_iff.1 hh).1 (hS g rfl)).trans hh,hr⟩⟩
end Go.Proofs.YtakaalldbnklcaaGreat
namespace Go.Proofs.YtakaalldbnklcaaGreat
open Go.RowKit Go.WideShapes Go.ChangeShapes Go.ChangeAt Go.Deep
set_option linter.unusedVariables false
def KindIn (n:Nat) (w:World) (T:List TypeId) (M:List Nat) (g:Nat):Prop:=n≤g∧((∃ cs t fr,w.heap[g]?=some (.cells cs t fr)∧t ∈ T)∨(g ∈ M∧∃ es c,w.heap[g]?=some (.map es c)))
section
variable {n n':Nat} {w w':World} {T T':List TypeId} {M M':List Nat} {g:Nat} {t:TypeId} {cs:Array Value}
theorem KindIn.not_blk (hb:Blk w g t cs) (h:t ∉ T):¬ KindIn n w T M g:=by
 unfold Blk at hb
 rintro ⟨_,⟨cs',t',fr,h1,h2⟩ | ⟨_,es,c,h1⟩⟩
 ·rw [hb] at h1
  injection h1 with h1
  injection h1 with _ h3 _
  subst h3
  exact h h2
 ·rw [hb] at h1
  injection h1 with h1
  cases h1
theorem KindIn.of_blk (hb:Blk w g t cs) (h:t ∈ T) (hn:n≤g):KindIn n w T M g:=⟨hn,.inl ⟨_,_,_,hb,h⟩⟩
theorem KindIn.not_map {κ ν:Type} {kE:κ→Value} {vE:ν→Value} {m:List (κ × ν)} (hm:IsMap w g kE vE m) (h:g ∉ M):¬ KindIn n w T M g:=by
 obtain ⟨es,c,hb,_⟩:=hm
 rintro ⟨_,⟨cs',t',fr,h1,h2⟩ | ⟨h1,_⟩⟩
 ·rw [hb] at h1
  injection h1 with h1
  cases h1
 ·exact h h1
theorem KindIn.of_map {κ ν:Type} {kE:κ→Value} {vE:ν→Value} {m:List (κ × ν)} (hm:IsMap w g kE vE m) (h:g ∈ M) (hn:n≤g):KindIn n w T M g:=by
 obtain ⟨es,c,hb,_⟩:=hm
 exact ⟨hn,.inr ⟨h,_,_,hb⟩⟩
theorem row_cells {base k m:Nat} {e:TypeId} {v:Value} {xs:List Value} (h:w.ownsRow base e k v m xs) (hg:v.ownBlock=some g):∃ cs,Blk w g e cs:=by
 rcases h.2 with ⟨h1,_⟩ | ⟨g',cap',cur,h1,_,hh,_⟩
 ·subst h1
  simp [Value.ownBlock] at hg
 ·subst h1
  simp [Value.ownBlock] at hg
  subst hg
  exact ⟨_,hh⟩
theorem KindIn.not_row {base k m:Nat} {e:TypeId} {v:Value} {xs:List Value} (h:w.ownsRow base e k v m xs) (hg:v.ownBlock=some g) (he:e ∉ T):¬ KindIn n w T M g:=by
 obtain ⟨cs,hb⟩:=row_cells h hg
 exact KindIn.not_blk hb he
theorem KindIn.of_row {base k m:Nat} {e:TypeId} {v:Value} {xs:List Value} (h:w.ownsRow base e k v m xs) (hg:v.ownBlock=some g) (he:e ∈ T) (hn:n≤base):KindIn n w T M g:=by
 obtain ⟨cs,hb⟩:=row_cells h hg
 exact KindIn.of_blk hb he (Nat.le_trans hn (h.lt g hg).1)
theorem KindIn.row {base k m:Nat} {e:TypeId} {v:Value} {xs:List Value} (h:w.ownsRow base e k v m xs) (hT:Touch (KindIn n w T M) w w') (he:e ∉ T):w'.ownsRow base e k v m xs:=own_touch h hT (fun _ hg=>KindIn.not_row h hg he)
theorem Touch.kind {S S':Nat→Prop} (h:Touch S w w') (hS:∀ k,k < w.heap.size→S k→S' k):Touch S' w w':=⟨h.os,h.tape,h.output,h.size,fun k hk hn=>h.block k hk (fun hs=>hn (hS k hk hs))⟩
theorem KindIn.mono (h:KindIn n w T M g) (hT:∀ t ∈ T,t ∈ T') (hM:∀ m ∈ M,m ∈ M'):KindIn n w T' M' g:=by
 obtain ⟨hn,h⟩:=h
 rcases h with ⟨cs',t',fr,h1,h2⟩ | ⟨h1,h2⟩
 ·exact ⟨hn,.inl ⟨_,_,_,h1,hT _ h2⟩⟩
 ·exact ⟨hn,.inr ⟨hM _ h1,h2⟩⟩
theorem Touch.low {w w':World} {T:List TypeId} {M:List Nat} {n:Nat} (h:Touch (KindIn n w T M) w w') (hn:n≤w.heap.size):Below n w w':=h.below hn (fun _ hk=>hk.1)
theorem KindIn.back {S:Nat→Prop} (hT:Touch S w w') (h:KindIn n w' T M g) (hlt:g < w.heap.size) (hS:¬ S g):KindIn n w T M g:=by
 have:=hT.block g hlt hS
 unfold KindIn at h ⊢
 rwa [this] at h
end
end Go.Proofs.YtakaalldbnklcaaGreat
namespace Go.Proofs.YtakaalldbnklcaaGreat
open Go.RowKit
set_option linter.unusedVariables false
section
variable {α:Type} [Inhabited α] {enc:α→List Value} {k:Nat}
theorem flatK_list (hk : ∀ x,(enc x).length=k) (d:Array α):(Sort.flatK enc k d).toList=d.toList.flatMap enc:=by
  apply List.ext_getElem?
  intro t
  have hlen:(d.toList.flatMap enc).length=d.size * k:=by rw [length_flatMap_const enc k hk]; simp
  by_cases ht:t < d.size * k
  · have k0 : 0 < k := by rcases Nat.eq_zero_or_pos k with h | h; · subst h; simp at ht
                          · exact h
    have hq:t / k < d.size:=Nat.div_lt_of_lt_mul (by rw [Nat.mul_comm]; exact ht)
    have hr:t % k < k:=Nat.mod_lt _ k0
    have e1:=getElem?_flatMap enc k hk d.toList (t / k) d[t / k] (by simp [hq]) (t % k) hr
    rw [Nat.mul_comm,Nat.div_add_mod] at e1
    rw [e1]
    have e2:=Sort.get_flatK enc k d t ht
    have hsz:t < (Sort.flatK enc k d).size:=by simpa using ht
    rw [Array.getElem?_toList,Array.getElem?_eq_getElem hsz, ← getElem!_pos (Sort.flatK enc k d) t hsz,e2,getElem!_pos d (t / k) hq]
    rw [List.getElem?_eq_getElem (by rw [hk]; exact hr)]
    congr 1
    exact getElem!_pos (enc d[t / k]) (t % k) (by rw [hk]; exact hr)
  · rw [List.getElem?_eq_none (by simpa using ht),List.getElem?_eq_none (by rw [hlen]; omega)]
def SortsAt (P:Program) (f:Nat) (fv:Value) (enc:α→List Value) (k:Nat) (lt:α→α→Bool):Prop :=
 (∀ (blk off cap:Nat) (d:Array α) (w:World),Sort.HoldsK enc k w blk off d→blk < w.heap.size→d.size < 4611686018427387904 →
  Calls P f #[.slice (some ⟨blk,off,none⟩) d.size cap,fv] w fun e w'=>e = .returned (.tuple #[])∧∃ d' n os,Sort.PermIn 0 d.size d d'∧Sort.SortedIn lt 0 d.size d'∧w'=sortWorldK enc k w blk off n d' os) ∧
 ∀ (p:Option Addr) (cap:Nat) (w:World),Calls P f #[.slice p 0 cap,fv] w fun e w'=>e = .returned (.tuple #[])∧w'=w
theorem sort_owned {P:Program} {f:Nat} {fv:Value} {lt:α→α→Bool} (hS:SortsAt P f fv enc k lt) (hk:∀ x,(enc x).length=k) {w:World} {base:Nat} {e:TypeId} {v:Value} {l:List α}
  (ho:w.ownsRow base e k v l.length (l.flatMap enc)) (hl:l.length < 4611686018427387904) :
  Calls P f #[v,fv] w fun r w'=>r = .returned (.tuple #[])∧∃ l':List α,l'.Perm l∧l'.Pairwise (fun a b=>lt b a=false)∧w'.ownsRow base e k v l'.length (l'.flatMap enc)∧w.grownBy w' v.ownBlock:=by
 rcases ho.2 with ⟨rfl,h0⟩ | ⟨g,cap,cur,rfl,hb,hg,hnc,hcm,hcs,htk⟩
 ·refine (hS.2 none 0 w).mono ?_
  rintro r w' ⟨rfl,rfl⟩
  have:l=[]:=List.eq_nil_of_length_eq_zero h0
  subst this
  exact ⟨rfl,[],List.Perm.refl _,List.Pairwise.nil,ho,⟨rfl,rfl,rfl,Nat.le_refl _,fun _ _ _=>rfl⟩⟩
 ·have hlt:g < w.heap.size:=(Array.getElem?_eq_some_iff.1 hg).1
  have hH:Sort.HoldsK enc k w g 0 l.toArray:=by
   intro j hj
   have hj':j < l.length * k:=by simpa using hj
   rw [Nat.zero_add]
   refine ⟨?_,frozen_of_row w g j cur e hg⟩
   rw [cell_of_row w g j cur e (0,0) hg]
   have e1:(l.flatMap enc)[j]?=cur[j]?:=by rw [← htk,List.getElem?_take,if_pos hj',Array.getElem?_toList]
   rw [← e1]
   have e2:=flatK_list hk l.toArray
   rw [← e2,Array.getElem?_toList,Array.getElem?_eq_getElem hj, ← getElem!_pos (Sort.flatK enc k l.toArray) j hj]
   rfl
  have hc:=hS.1 g 0 cap l.toArray w hH hlt (by simpa using hl)
  rw [show l.toArray.size=l.length from by simp] at hc
  refine hc.mono ?_
  rintro r w' ⟨rfl,d',n,os,⟨hp1,hp2,hp3⟩,hs,rfl⟩
  have hsz:d'.size=l.length:=hp1.trans (by simp)
  have hperm:d'.toList.Perm l:=by
   have h1:(d'.extract 0 l.length).toList=d'.toList:=by simp [← hsz]
   have h2:(l.toArray.extract 0 l.length).toList=l:=by simp
   rw [h1,h2] at hp3
   exact hp3
  have hll:d'.toList.length=l.length:=by simpa using hsz
  have hgw:(sortWorldK enc k w g 0 n d' os).heap[g]?=some (.cells (Sort.putCells id 0 (Sort.flatK enc k d') cur) e (0,0)):=by
   unfold sortWorldK
   rw [Sort.heap_grow_old _ _ (by simpa [Sort.putRowK] using hlt)]
   simp [Sort.putRowK,Sort.putRow,Sort.mapBlock,Sort.ahead,Array.getElem?_modify,hg,Sort.onCells]
  refine ⟨rfl,d'.toList,hperm, ?_,⟨by rw [length_flatMap_const enc k hk],.inr ⟨g,cap,_,by rw [hll],hb,hgw,by omega,hcm,by simp [Sort.putCells,hcs], ?_⟩⟩, ?_⟩
  ·rw [List.pairwise_iff_getElem]
   intro i j hi hj hij
   have h:=hs i j (Nat.zero_le _) hij (by rw [← hll]; exact hj)
   rw [getElem!_pos d' i (by simpa using hi),getElem!_pos d' j (by simpa using hj)] at h
   simpa using h
  ·rw [← flatK_list hk d',show d'.toList.length=d'.size from by simp]
   apply List.ext_getElem?
   intro j
   by_cases hj:j < d'.size * k
   ·have hjs:j < cur.size:=by
     have:d'.size * k≤cap * k:=Nat.mul_le_mul_right _ (by omega)
     omega
    have hjf:j < (Sort.flatK enc k d').size:=by simpa using hj
    rw [List.getElem?_take_of_lt hj,Array.getElem?_toList,Array.getElem?_toList,Array.getElem?_eq_getElem hjf, ← getElem!_pos (Sort.flatK enc k d') j hjf]
    simp [Sort.putCells,hj,hjs]
   ·rw [List.getElem?_take_eq_none (by omega),List.getElem?_eq_none (by simpa using hj)]
  ·refine ⟨rfl,rfl,rfl,by simp [sortWorldK,Sort.grow,Sort.putRowK,Sort.putRow,Sort.mapBlock,Sort.ahead],fun i hi hne => ?_⟩
   unfold sortWorldK
   rw [Sort.heap_grow_old _ _ (by simpa [Sort.putRowK] using hi)]
   have:g ≠ i:=fun e=>hne (by rw [Value.ownBlock,e])
   simp [Sort.putRowK,Sort.putRow,Sort.mapBlock,Sort.ahead,Array.getElem?_modify,this]
end
end Go.Proofs.YtakaalldbnklcaaGreat
namespace Go.Proofs.YtakaalldbnklcaaGreat
open Go.RowKit
set_option linter.unusedVariables false
structure In (C:World→Prop) where
 w:World
 h:C w
theorem wp_region_in {P:Program} {id:Nat} {Q:Exit→Act→World→Prop} {a:Act} {w:World} {l:List Oper} (C:World→Prop) (hm:P.follows .mixedOrders=true) (hB:Region.lexB .any l.toArray=true) (hC:C w.drew)
  (h:Nonempty (In C)→wpQuiet P l.toArray (fun w'=>∃ p:In C,w'=p.w) (fun a'=>∀ w',C w'→Q .normal a' w') l a):(Code.region id l.toArray true).wp P Q a w:=by
 refine wp_region_quiet (C:=fun w'=>∃ p:In C,w'=p.w) hm hB ⟨⟨w.drew,hC⟩,rfl⟩ ?_
 have h1:=h ⟨⟨w.drew,hC⟩⟩
 have h2:(fun a'=>∀ w',(∃ p:In C,w'=p.w)→Q .normal a' w')=(fun a'=>∀ w',C w'→Q .normal a' w'):=by
  funext a'
  apply propext
  exact ⟨fun g w' hw=>g w' ⟨⟨w',hw⟩,rfl⟩,fun g w' ⟨p,hp⟩=>by subst hp; exact g _ p.h⟩
 rw [h2]
 exact h1
theorem Calls.in_of {P:Program} {f:FuncId} {args:Array Value} {C:World→Prop} {p:In C} {v:Value} (h:Calls P f args p.w fun e w'=>e = .returned v∧C w') :
  Calls P f args p.w fun e w''=>e = .returned v∧∃ q:In C,w''=q.w:=h.mono fun _ _ ⟨he,hc⟩=>⟨he,⟨_,hc⟩,rfl⟩
def CellsAt (w:World) (b o:Nat) (cs:List Value):Prop:=b < w.heap.size∧∀ j u,cs[j]?=some u→w.cell? ⟨b,o + j,none⟩=some u
theorem CellsAt.next {w w':World} {b o:Nat} {cs:List Value} (h:CellsAt w b o cs) (hb:Below w.heap.size w w'):CellsAt w' b o cs:=⟨Nat.lt_of_lt_of_le h.1 hb.size,fun j u hu=>(hb.cell (p:=⟨b,o + j,none⟩) h.1).trans (h.2 j u hu)⟩
end Go.Proofs.YtakaalldbnklcaaGreat
namespace Go.Proofs.YtakaalldbnklcaaGreat
open Go.RowKit Go.MapKept Go.ChangeMaps
set_option linter.unusedVariables false
section
variable {κ ν:Type} {P:Program} {w w':World} {r B:Nat} {kE:κ→Value} {vE:ν→Value} {m left:List (κ × ν)} {F:Fence} {n:Nat}
theorem IsIter.of_walks (h:IsIter w r B kE vE m left) (hk:KeepsWalks w w'):IsIter w' r B kE vE m left:=by
 obtain ⟨es,clock,since,c0,seen,h1,h2,h3,h4,h5,h6,h7,h8,h9⟩:=h
 exact ⟨es,clock,since,c0,seen,hk.same B _ h1 rfl,h2,h3,h4,h5,h6,h7,hk.same r _ h8 rfl,h9⟩
theorem IsIter.iter_walk (h:IsIter w r B kE vE m left):∃ o:Obj,w.heap[r]?=some o∧o.isWalk=true:=by
 obtain ⟨es,clock,since,c0,seen,_,_,_,_,_,_,_,h8,_⟩:=h
 exact ⟨_,h8,rfl⟩
theorem wpListIn_range_m {ops:Array Oper} {rest:List Oper} {o:Oper} {a:Act} {Q:Exit→Act→World→Prop} (w:World)
  (hg:o.guard=none) (mo:Operand) (mt kt et:TypeId) (hop:o.op=Op.range mt mo) (hm:P.underlying mt=some (.map kt et)) (B:Nat) (m:List (κ × ν)) (hM:a.eval mo = .map (some B)) (h:IsMap w B kE vE m)
  (hK:∀ w',IsIter w' w.heap.size B kE vE m m→w.grownBy w' none→w'.heap.size=w.heap.size + 1→wpListIn F n P ops Q rest (a.put o.dst (.pointer (some ⟨w.heap.size,0,none⟩))) w'):wpListIn F n P ops Q (o :: rest) a w:=by
 refine wpListIn_plain hg fun K' hK' => ?_
 obtain ⟨w',hrun,r1,r2,r3⟩:=h.range hm
 unfold Oper.wpIn
 refine ⟨?_, ?_⟩
 ·simp [Oper.about,hop]
 ·rw [Oper.semAt_plain F _ _ (by rw [hop]; intro c hc'; cases hc')]
  simp [execOp,hop,hM,hrun,Result.andThen]
  exact hK' _ _ (hK w' r1 ⟨r2.os,r2.tape,r2.output,by omega,fun i hi _=>r2.block i hi⟩ r3)
theorem wpListIn_next_m {ops:Array Oper} {rest:List Oper} {o:Oper} {a:Act} {Q:Exit→Act→World→Prop} (w:World)
  (hg:o.guard=none) (it:Operand) (hop:o.op=Op.next it false) (r B:Nat) (m left:List (κ × ν)) (hit:a.eval it = .pointer (some ⟨r,0,none⟩)) (h:IsIter w r B kE vE m left)
  (hDone:left=[]→wpListIn F n P ops Q rest (a.put o.dst (.tuple #[.bool false])) w)
  (hMore:∀ (k:κ) (v:ν) (left':List (κ × ν)) (w':World),left.Perm ((k,v) :: left')→IsIter w' r B kE vE m left'→w.grownBy w' (some r)→w'.heap.size=w.heap.size →
   (Instr.entry (.pointer (some ⟨r,0,none⟩))).run P w' = .ok (.tuple #[kE k,vE v]) w'→wpListIn F n P ops Q rest (a.put o.dst (.tuple #[.bool true,kE k,vE v])) w'):wpListIn F n P ops Q (o :: rest) a w:=by
 refine wpListIn_plain hg fun K' hK' => ?_
 unfold Oper.wpIn
 refine ⟨by simp [Oper.about,hop], ?_⟩
 rw [Oper.semAt_plain F _ _ (by rw [hop]; intro c hc'; cases hc')]
 rcases h.step (P:=P) o.type with ⟨h0,hrun⟩ | ⟨k,v,left',w',hp,hrun,hi,hgr,hs,hen⟩
 ·simp [execOp,hop,hit,hrun,Result.andThen]
  exact hK' _ _ (hDone h0)
 ·simp [execOp,hop,hit,hrun,Result.andThen]
  exact hK' _ _ (hMore k v left' w' hp hi hgr hs hen)
end
end Go.Proofs.YtakaalldbnklcaaGreat
namespace Go.Proofs.YtakaalldbnklcaaGreat
open Go.RowKit
set_option linter.unusedVariables false
def nOf:Value→Nat | .int _ q=>q.toNat | _=>0
def ltI (a b:Int):Bool:=decide (a < b)
theorem linI:LinK ltI where
 irrefl a:=by simp [ltI]
 trans a b c h g:=by simp only [ltI,decide_eq_true_eq] at *; omega
 total a b h g:=by simp only [ltI,decide_eq_false_iff_not] at *; omega
def plc {α:Type} (p:α→Bool) (l:List α):Int:=if l.findIdx p < l.length then (l.findIdx p:Nat) else -1
theorem plc_some {α:Type} {p:α→Bool} {l:List α} {k:Nat} {y:α} (hk:l[k]?=some y) (hy:p y=true) (hb:∀ j z,j < k→l[j]?=some z→p z=false):plc p l=k:=by
 have hl:=(List.getElem?_eq_some_iff.1 hk).1
 have he:=(List.getElem?_eq_some_iff.1 hk).2
 have:l.findIdx p=k:=by
  rw [List.findIdx_eq hl]
  exact ⟨by rw [he]; exact hy,fun j hj=>hb j _ hj (List.getElem?_eq_getElem (by omega))⟩
 unfold plc
 rw [this,if_pos hl]
theorem plc_none {α:Type} {p:α→Bool} {l:List α} (h:∀ y ∈ l,p y=false):plc p l = -1:=by
 unfold plc
 rw [if_neg]
 intro hlt
 have:=List.findIdx_getElem (w:=hlt)
 rw [h _ (List.getElem_mem hlt)] at this
 cases this
theorem plc_cases {α:Type} (p:α→Bool) (l:List α):(∃ (k:Nat) (y:α),k < l.length∧l[k]?=some y∧p y=true∧plc p l=k)∨((∀ y ∈ l,p y=false)∧plc p l = -1):=by
 by_cases h:l.findIdx p < l.length
 ·left
  exact ⟨l.findIdx p,l[l.findIdx p],h,List.getElem?_eq_getElem h,List.findIdx_getElem,by unfold plc; rw [if_pos h]⟩
 ·right
  have h1:l.findIdx p=l.length:=by have:=List.findIdx_le_length (xs:=l) (p:=p); omega
  refine ⟨fun y hy => ?_,by unfold plc; rw [if_neg h]⟩
  have:=List.findIdx_eq_length.1 h1 y hy
  simpa using this
end Go.Proofs.YtakaalldbnklcaaGreat
namespace Go.Proofs.YtakaalldbnklcaaGreat
open Go.RowKit Go.MapKept Go.ChangeMaps Go.WideShapes Go.ChangeShapes Go.ChangeAt Go.Deep
set_option linter.unusedVariables false
end Go.Proofs.YtakaalldbnklcaaGreat
namespace Go.Proofs.YtakaalldbnklcaaGreat
open Go.RowKit
set_option linter.unusedVariables false
def cmpI (x y:Int):Int:=if x < y then -1 else if y < x then 1 else 0
theorem isNaN_any (x:Int) (w:World):Calls Tryz.prog 80 #[.int .i64 x] w fun e w'=>e = .returned (.bool false)∧w=w':=by
 go_enter Tryz.func80,Tryz.ntmps80
 go_wp2_with fail
 go_ret
 exact ⟨by simp,rfl⟩
theorem compare_any (x y:Int) (w:World):Calls Tryz.prog 38 #[.int .i64 x,.int .i64 y] w fun e w'=>e = .returned (.int .i64 (cmpI x y))∧w=w':=by
 rcases (show x < y∨y < x∨x=y from by omega) with h1 | h2 | h3
 ·go_enter Tryz.func38,Tryz.ntmps38
  go_wp2_with fail
  refine (isNaN_any _ _).mono ?_
  rintro e w1 ⟨rfl,rfl⟩
  go_wp2_with fail
  refine (isNaN_any _ _).mono ?_
  rintro e w1 ⟨rfl,rfl⟩
  go_wp2_with fail
  go_ret
  exact ⟨by simp [cmpI,h1],rfl⟩
 ·have h1:¬ x < y:=by omega
  go_enter Tryz.func38,Tryz.ntmps38
  go_wp2_with fail
  refine (isNaN_any _ _).mono ?_
  rintro e w1 ⟨rfl,rfl⟩
  go_wp2_with fail
  refine (isNaN_any _ _).mono ?_
  rintro e w1 ⟨rfl,rfl⟩
  go_wp2_with fail
  go_ret
  exact ⟨by simp [cmpI,h2,show ¬ x < y from by omega],rfl⟩
 ·subst h3
  go_enter Tryz.func38,Tryz.ntmps38
  go_wp2_with fail
  refine (isNaN_any _ _).mono ?_
  rintro e w1 ⟨rfl,rfl⟩
  go_wp2_with fail
  refine (isNaN_any _ _).mono ?_
  rintro e w1 ⟨rfl,rfl⟩
  go_wp2_with fail
  go_ret
  exact ⟨by simp [cmpI],rfl⟩
def Grew (w w':World):Prop:=∃ q os,w'=Sort.grow (w.drewN q) os
theorem Grew.refl (w:World):Grew w w:=⟨0,#[],by simp [Sort.grow,World.drewN]⟩
theorem Grew.alloc {w w':World} (h:Grew w w') (o:Obj):Grew w (w'.alloc o):=by
 obtain ⟨q,os,rfl⟩:=h
 exact ⟨q,os++#[o],by rw [Sort.alloc_eq_grow,Sort.grow_grow]⟩
end Go.Proofs.YtakaalldbnklcaaGreat
namespace Go.Proofs
open Go.Shelf
def Tryz.sortGd_ren:Go.Shelf.Ren:=⟨fun | 6=>88 | 15=>113 | 14=>130 | 28=>155 | 29=>156 | 20=>179 | 21=>180 | 22=>181 | 23=>182 | 24=>183 | 25=>184 | 26=>185 | 27=>186 | 46=>227 | 47=>210 | 48=>211 | 49=>228 | 50=>229 | 57=>238 | n=>n,fun | 22=>139 | 24=>156 | 25=>238 | 3=>3 | 39=>265 | 0=>0 | 53=>299 | 55=>301 | 4=>4 | 46=>293 | 45=>292 | 50=>247 | 5=>5 | 9=>9 | 66=>333 | 70=>337 | 76=>352 | 77=>172 | n=>n,fun | n=>n⟩
theorem Tryz.sortGd:SlLaysF0.n6 Tryz.prog Tryz.sortGd_ren:={
 mixed:=by kernel_rfl
 f6:=⟨Tryz.f88.name,by decide,Tryz.func88.trans (congrArg some (by kernel_rfl))⟩
 f14:=⟨Tryz.f130.name,by decide,Tryz.func130.trans (congrArg some (by kernel_rfl))⟩
 f15:=Tryz.func113.trans (congrArg some (by kernel_rfl))
 f20:=⟨Tryz.f179.name,by decide,Tryz.func179.trans (congrArg some (by kernel_rfl))⟩
 f21:=⟨Tryz.f180.name,by decide,Tryz.func180.trans (congrArg some (by kernel_rfl))⟩
 f22:=⟨Tryz.f181.name,by decide,Tryz.func181.trans (congrArg some (by kernel_rfl))⟩
 f23:=⟨Tryz.f182.name,by decide,Tryz.func182.trans (congrArg some (by kernel_rfl))⟩
 f24:=⟨Tryz.f183.name,by decide,Tryz.func183.trans (congrArg some (by kernel_rfl))⟩
 f25:=⟨Tryz.f184.name,by decide,Tryz.func184.trans (congrArg some (by kernel_rfl))⟩
 f26:=⟨Tryz.f185.name,by decide,Tryz.func185.trans (congrArg some (by kernel_rfl))⟩
 f27:=⟨Tryz.f186.name,by decide,Tryz.func186.trans (congrArg some (by kernel_rfl))⟩
 f28:=Tryz.func155.trans (congrArg some (by kernel_rfl))
 f29:=Tryz.func156.trans (congrArg some (by kernel_rfl))
 f46:=⟨Tryz.f227.name,by decide,Tryz.func227.trans (congrArg some (by kernel_rfl))⟩
 f47:=Tryz.func210.trans (congrArg some (by kernel_rfl))
 f48:=Tryz.func211.trans (congrArg some (by kernel_rfl))
 f49:=⟨Tryz.f228.name,by decide,Tryz.func228.trans (congrArg some (by kernel_rfl))⟩
 f50:=⟨Tryz.f229.name,by decide,Tryz.func229.trans (congrArg some (by kernel_rfl))⟩
 f57:=⟨Tryz.f238.name,by decide,Tryz.func238.trans (congrArg some (by kernel_rfl))⟩
 t0:=Tryz.underlying0
 a0:=Tryz.isAgg0
 z0:=Tryz.sizeOf0
 v0:=Tryz.zeroValue0
 t3:=Tryz.underlying3
 a3:=Tryz.isAgg3
 z3:=Tryz.sizeOf3
 v3:=Tryz.zeroValue3
 t4:=Tryz.underlying4
 a4:=Tryz.isAgg4
 z4:=Tryz.sizeOf4
 v4:=Tryz.zeroValue4
 t5:=Tryz.underlying5
 a5:=Tryz.isAgg5
 z5:=Tryz.sizeOf5
 v5:=Tryz.zeroValue5
 t9:=Tryz.underlying9
 a9:=Tryz.isAgg9
 z9:=Tryz.sizeOf9
 v9:=Tryz.zeroValue9
 t22:=Tryz.underlying139
 a22:=Tryz.isAgg139
 z22:=Tryz.sizeOf139
 v22:=Tryz.zeroValue139
 t25:=Tryz.underlying238
 a25:=Tryz.isAgg238
 z25:=Tryz.sizeOf238
 v25:=Tryz.zeroValue238
 t39:=Tryz.underlying265
 a39:=Tryz.isAgg265
 z39:=Tryz.sizeOf265
 v39:=Tryz.zeroValue265
 t45:=Tryz.underlying292
 a45:=Tryz.isAgg292
 z45:=Tryz.sizeOf292
 v45:=Tryz.zeroValue292
 t46:=Tryz.underlying293
 a46:=Tryz.isAgg293
 z46:=Tryz.sizeOf293
 v46:=Tryz.zeroValue293
 t50:=Tryz.underlying247
 a50:=Tryz.isAgg247
 z50:=Tryz.sizeOf247
 v50:=Tryz.zeroValue247
 t53:=Tryz.underlying299
 a53:=Tryz.isAgg299
 z53:=Tryz.sizeOf299
 v53:=Tryz.zeroValue299
 t55:=Tryz.underlying301
 a55:=Tryz.isAgg301
 z55:=Tryz.sizeOf301
 v55:=Tryz.zeroValue301
 t66:=Tryz.underlying333
 a66:=Tryz.isAgg333
 z66:=Tryz.sizeOf333
 v66:=Tryz.zeroValue333
 t70:=Tryz.underlying337
 a70:=Tryz.isAgg337
 z70:=Tryz.sizeOf337
 v70:=Tryz.zeroValue337
 t76:=Tryz.underlying352
 a76:=Tryz.isAgg352
 z76:=Tryz.sizeOf352
 v76:=Tryz.zeroValue352
 t77:=Tryz.underlying172
 a77:=Tryz.isAgg172
 z77:=Tryz.sizeOf172
 v77:=Tryz.zeroValue172
}
end Go.Proofs
namespace Go.Proofs.YtakaalldbnklcaaGreat
open Go.RowKit Go.WideShapes Go.ChangeShapes Go.ChangeAt Go.Deep
set_option linter.unusedVariables false
section
variable {α κ:Type} {key:α→κ} {lt:κ→κ→Bool} {r:List α} {z y:α} {k:Nat}
def midK (r:List α) (z:α) (k:Nat):List α:=r.take k++z :: r.drop k
theorem midK_len (hkl:k≤r.length):(midK r z k).length=r.length + 1:=by unfold midK; simp; omega
theorem midK_here (hkl:k≤r.length):(midK r z k)[k]?=some z:=by
 unfold midK
 have hl:(r.take k).length=k:=by simp; omega
 rw [List.getElem?_append_right (by omega),hl,Nat.sub_self]; rfl
theorem midK_at (hk:0 < k) (hkl:k≤r.length):(midK r z k)[k - 1]?=r[k - 1]?:=by
 unfold midK
 rw [List.getElem?_append_left (by simp; omega),List.getElem?_take_of_lt (by omega)]
theorem midK_end:midK r z r.length=r++[z]:=by unfold midK; simp
theorem midK_step (hk:0 < k) (hkl:k≤r.length) (hy:r[k - 1]?=some y):((midK r z k).set k y).set (k - 1) z=midK r z (k - 1):=by
 unfold midK
 have hk1:k - 1 < r.length:=by omega
 have hl:(r.take k).length=k:=by simp; omega
 have e2:r.take k=r.take (k - 1)++[y]:=by
  have:=List.take_succ_eq_append_getElem (l:=r) (i:=k - 1) hk1
  rw [show k - 1 + 1=k from by omega,(List.getElem?_eq_some_iff.1 hy).2] at this
  exact this
 have e3:r.drop (k - 1)=y :: r.drop k:=by
  rw [List.drop_eq_getElem_cons hk1,(List.getElem?_eq_some_iff.1 hy).2,show k - 1 + 1=k from by omega]
 have hl1:(r.take (k - 1)).length=k - 1:=by simp; omega
 rw [List.set_append_right _ _ (by omega),hl,Nat.sub_self,List.set_cons_zero,e2,e3,List.append_assoc,List.set_append_right _ _ (by omega),hl1,Nat.sub_self]
 rfl
def Behind (key:α→κ) (lt:κ→κ→Bool) (r:List α) (z:α) (k:Nat):Prop:=∀ j y,k≤j→r[j]?=some y→lt (key z) (key y)=true
theorem behind_end:Behind key lt r z r.length:=fun j y hj hy=>by rw [List.getElem?_eq_none hj] at hy; cases hy
theorem behind_step (h:Behind key lt r z k) (hk:0 < k) (hy:r[k - 1]?=some y) (hlt:lt (key z) (key y)=true):Behind key lt r z (k - 1):=fun j x hj hx=>by
 by_cases e:j=k - 1
 ·subst e; rw [hy] at hx; injection hx with hx; subst hx; exact hlt
 ·exact h j x (by omega) hx
theorem midK_done (L:LinK lt) (hs:SortedK key lt r) (hn:key z ∉ r.map key) (hkl:k≤r.length) (h:Behind key lt r z k) (hf:∀ y,0 < k→r[k - 1]?=some y→lt (key z) (key y)=false):midK r z k=insK key lt r z:=by
 have hp:posK key lt r (key z)=k:=by
  refine posK_eq hkl (fun j x hj hx => ?_) (fun x hx => ?_)
  ·have hk1:k - 1 < r.length:=by omega
   have hy:r[k - 1]?=some r[k - 1]:=List.getElem?_eq_getElem hk1
   have h1:=hf _ (by omega) hy
   have hne:∀ x ∈ r,key x ≠ key z:=fun x hx e=>hn (by rw [← e]; exact List.mem_map_of_mem hx)
   have h2:lt (key r[k - 1]) (key z)=true:=by
    cases hc:lt (key r[k - 1]) (key z) with
    | true=>rfl
    | false=>exact absurd (L.total _ _ hc h1) (hne _ (List.getElem_mem hk1))
   by_cases e:j=k - 1
   ·subst e; rw [hy] at hx; injection hx with hx; subst hx; exact h2
   ·have hjl:=(List.getElem?_eq_some_iff.1 hx).1
    have:=(List.pairwise_iff_getElem.1 hs) j (k - 1) hjl hk1 (by omega)
    rw [(List.getElem?_eq_some_iff.1 hx).2] at this
    exact L.trans _ _ _ this h2
  ·have h1:=h k x (Nat.le_refl _) hx
   cases hc:lt (key x) (key z) with
   | false=>rfl
   | true=>have:=L.trans _ _ _ h1 hc; rw [L.irrefl] at this; cases this
 unfold insK midK
 rw [hp]
structure InsRow (enc:α→List Value) (s:Nat) (t:TypeId) (base g cap:Nat) (w4:World) (l:List α) (w:World):Prop where
 own:w.ownsRow base t s (.slice (some ⟨g,0,none⟩) l.length cap) l.length (l.flatMap enc)
 touch:Touch (· = g) w4 w
variable {enc:α→List Value} {s:Nat} {t:TypeId} {base g cap:Nat} {w4 w:World} {l:List α}
theorem InsRow.next {w':World} (h:InsRow enc s t base g cap w4 l w) (hb:Below w.heap.size w w'):InsRow enc s t base g cap w4 l w' :=
 ⟨h.own.kept (grown_of_below hb none) (by cases hv:(Value.slice (some ⟨g,0,none⟩) l.length cap).ownBlock <;> simp),h.touch.then (.of_below hb)⟩
theorem InsRow.drew (h:InsRow enc s t base g cap w4 l w):InsRow enc s t base g cap w4 l w.drew:=h.next (below_drewN (Below.refl _ _) 1)
theorem InsRow.elem (hs:∀ x,(enc x).length=s) (h:InsRow enc s t base g cap w4 l w) {k:Nat} {y:α} (hk:l[k]?=some y):CellsAt w g (k * s) (enc y):=by
 have hkl:=(List.getElem?_eq_some_iff.1 hk).1
 obtain ⟨g',cap',e,hb,hlt⟩:=own_form h.own (by omega)
 injection e with e1 e2 e3
 injection e1 with e1
 injection e1 with e1
 subst e1
 exact ⟨hlt,fun j u hu=>own_cells hs h.own hk hu⟩
theorem InsRow.free (h:InsRow enc s t base g cap w4 l w) (i:Nat):w.frozen? ⟨g,i,none⟩=false:=own_free h.own i
theorem InsRow.put (hs:∀ x,(enc x).length=s) (h:InsRow enc s t base g cap w4 l w) {k:Nat} (hk:k < l.length) (x:α):InsRow enc s t base g cap w4 (l.set k x) (storeMany w g (k * s) (enc x)):=by
 obtain ⟨h1,h2⟩:=own_set hs h.own hk x
 exact ⟨h1,h.touch.then (Touch.of_grown h2)⟩
theorem InsRow.field (hs:∀ x,(enc x).length=s) (h:InsRow enc s t base g cap w4 l w) {k j:Nat} {x x':α} {v:Value} (hk:l[k]?=some x) (hj:j < s) (hx:enc x'=(enc x).set j v):InsRow enc s t base g cap w4 (l.set k x') (w.setCell ⟨g,k * s + j,none⟩ v):=by
 obtain ⟨h1,h2⟩:=own_field hs h.own hk hj v x' hx
 exact ⟨h1,h.touch.then (Touch.of_grown h2)⟩
end
theorem own_other {w:World} {base base' n n':Nat} {e e':TypeId} {size size':Nat} {v v':Value} {xs xs':List Value} (h:w.ownsRow base e size v n xs) (h':w.ownsRow base' e' size' v' n' xs') (hne:e ≠ e') {g:Nat} (hg:v'.ownBlock=some g):v.ownBlock ≠ some g:=by
 intro he
 rcases h.2 with ⟨rfl,_⟩ | ⟨g1,cap,cur,rfl,_,hh,_⟩
 ·simp [Value.ownBlock] at he
 ·rcases h'.2 with ⟨rfl,_⟩ | ⟨g2,cap2,cur2,rfl,_,hh2,_⟩
  ·simp [Value.ownBlock] at hg
  ·have e1:g1=g:=by simpa [Value.ownBlock] using he
   have e2:g2=g:=by simpa [Value.ownBlock] using hg
   subst e1 e2
   rw [hh] at hh2
   injection hh2 with hh2
   injection hh2 with _ h2
   exact hne h2
end Go.Proofs.YtakaalldbnklcaaGreat
namespace Go.Proofs.YtakaalldbnklcaaGreat
open Go.RowKit
section
variable {P:Program} {kt i1 i2:TypeId} {n1 n2:String}
theorem two_fields2 (hf : (P.fieldsOf kt).toList.map (fun f => (f.name, f.type, f.offset)) = [(n1, i1, 0), (n2, i2, 1)]) (h1 : n1 ≠ "_") (h2 : n2 ≠ "_") :
  ∃ f g : Field, (P.fieldsOf kt).toList = [f, g] ∧ (f.name ≠ "_" ∧ f.type = i1 ∧ f.offset = 0) ∧ (g.name ≠ "_" ∧ g.type = i2 ∧ g.offset = 1) := by
 generalize (P.fieldsOf kt).toList=l at hf
 rcases l with _ | ⟨f,_ | ⟨g,_ | ⟨x,l⟩⟩⟩
 ·simp at hf
 ·simp at hf
 ·simp only [List.map_cons,List.map_nil,List.cons.injEq,Prod.mk.injEq,and_true] at hf
  obtain ⟨⟨a1,a2,a3⟩,b1,b2,b3⟩:=hf
  exact ⟨f,g,rfl,⟨by rw [a1]; exact h1,a2,a3⟩,by rw [b1]; exact h2,b2,b3⟩
 ·simp at hf
theorem pairKey2 (hu : P.underlying kt = some (.struct (P.fieldsOf kt))) (hh : P.stoodInHeld kt = false) (hf : (P.fieldsOf kt).toList.map (fun f => (f.name, f.type, f.offset)) = [(n1, i1, 0), (n2, i2, 1)]) (h1 : n1 ≠ "_") (h2 : n2 ≠ "_")
  (hi1:P.underlying i1=some (.int .i64)) (ha1:∀ w,(isAgg i1).run P w = .ok false w) (hi2:P.underlying i2=some (.int .i64)) (ha2:∀ w,(isAgg i2).run P w = .ok false w):KeyLaw P kt kP:=by
 obtain ⟨f,g,hl,⟨f1,f2,f3⟩,g1,g2,g3⟩:=two_fields2 hf h1 h2
 have p0:∀ (x y:Int) (w:World),(part i1 #[.int .i64 x,.int .i64 y] 0).run P w = .ok (.int .i64 x) w:=fun x y w=>by unfold part; simp [ha1]
 have p1:∀ (x y:Int) (w:World),(part i2 #[.int .i64 x,.int .i64 y] 1).run P w = .ok (.int .i64 y) w:=fun x y w=>by unfold part; simp [ha2]
 refine keyLaw_of ?_ ?_ ?_ hu (fun _ _ => .inl rfl)
 ·rintro e ⟨a1,a2⟩ w
  show (Instr.checkKey e (9999 + 1) kt (.agg _)).run P w=_
  unfold Instr.checkKey
  have e1:∀ x:Int,(Instr.checkKey e 9999 i1 (.int .i64 x)).run P w = .ok () w:=fun x=>by
   show (Instr.checkKey e (9998 + 1) i1 (.int .i64 x)).run P w = .ok () w
   unfold Instr.checkKey
   simp [run_underlying hi1]
  have e2:∀ x:Int,(Instr.checkKey e 9999 i2 (.int .i64 x)).run P w = .ok () w:=fun x=>by
   show (Instr.checkKey e (9998 + 1) i2 (.int .i64 x)).run P w = .ok () w
   unfold Instr.checkKey
   simp [run_underlying hi2]
  simp only [Sem.run_bind,run_underlying hu,Result.andThen_ok]
  rw [← Array.forIn_toList,hl]
  simp [f1,g1,f2,g2,f3,g3,p0,p1,e1,e2]
 ·rintro ⟨a1,a2⟩ ⟨b1,b2⟩ w
  show (Op.equalIn (9999 + 1) kt (.agg _) (.agg _)).run P w=_
  rw [run_equalIn_struct w 9999 _ _ _ hu hh,hl]
  have e1:∀ x y:Int,(Op.equalIn 9999 i1 (.int .i64 x) (.int .i64 y)).run P w = .ok (x == y) w:=fun x y=>run_equalIn_int w 9998 _ _ _ _ _ hi1
  have e2:∀ x y:Int,(Op.equalIn 9999 i2 (.int .i64 x) (.int .i64 y)).run P w = .ok (x == y) w:=fun x y=>run_equalIn_int w 9998 _ _ _ _ _ hi2
  simp only [Op.eqFields,f1,g1,f2,g2,f3,g3,ne_eq,not_false_eq_true,if_true,Sem.run_bind,p0,Result.andThen_ok,e1]
  by_cases h1:a1=b1
  ·by_cases h2:a2=b2
   ·simp [h1,h2,p1,e2]
   ·simp [h1,h2,p1,e2]
  ·simp [h1]
 ·intro a w
  show (Instr.keyThatStays (.agg _) (.agg _)).run P w=_
  unfold Instr.keyThatStays
  simp [Instr.sameBits,kP]
end
end Go.Proofs.YtakaalldbnklcaaGreat
namespace Go.Proofs.YtakaalldbnklcaaGreat
open Go.RowKit
set_option linter.unusedVariables false
section
variable {κ ν:Type} [DecidableEq κ] {P:Program} {w:World} {B:Nat} {kE:κ→Value} {vE:ν→Value} {m:List (κ × ν)} {kt:TypeId}
theorem arr_findIdx {es:List MapEntry} {j:Nat} {e:MapEntry} (hn:(es.map (·.born)).Nodup) (hj:es[j]?=some e):es.toArray.findIdx? (fun x=>((x.born:Nat):Int) == ((e.born:Nat):Int))=some j:=by
 rw [WideElems.findIdx_arr]
 exact WideElems.findIdx_born hn hj
theorem IsMap.entry {mt et:TypeId} (h:IsMap w B kE vE m) (K:KeyLaw P kt kE) (hm:P.underlying mt=some (.map kt et)) (z:ν) (hz:∀ w,(zeroValue et).run P w = .ok (vE z) w) (a:κ) :
  ∃ (st:Nat) (w1:World),(Instr.mapEntry mt (.map (some B)) (kE a)).run P w = .ok (.tuple #[vE ((mget m a).getD z),goInt st]) w1∧IsMap w1 B kE vE (mset m a ((mget m a).getD z))∧w.grownBy w1 (some B)∧w1.heap.size=w.heap.size ∧
   ∀ (w2:World) (b:ν),w2.heap[B]?=w1.heap[B]?→∃ w3,(Instr.entryStore mt (.map (some B)) (goInt st) (vE b)).run P w2 = .ok () w3∧IsMap w3 B kE vE (mset m a b)∧w2.grownBy w3 (some B)∧w3.heap.size=w2.heap.size:=by
 obtain ⟨w0,hrun0,hS0,hg0,hs0⟩:=h.store K hm a ((mget m a).getD z)
 have hsame:=h
 obtain ⟨es,c,hb,hr,hn,hbn,hd⟩:=h
 have hlt:B < w.heap.size:=(Array.getElem?_eq_some_iff.1 hb).1
 have grown:∀ (u:World) o,u.grownBy { u with heap:=u.heap.setIfInBounds B o } (some B):=fun u o =>
  ⟨rfl,rfl,rfl,by simp,fun k hk hne=>by
   have:k ≠ B:=fun e=>hne (by rw [e])
   simp [Ne.symm this]⟩
 have store:∀ (es1:List MapEntry) (c1:Nat) (m1:List (κ × ν)) (j:Nat) (e:MapEntry) (v0:ν),es1.map (fun e=>(e.key,e.val))=m1.map (fun p=>(kE p.1,vE p.2))→(es1.map (·.born)).Nodup→(∀ e ∈ es1,e.born < c1)→(m1.map (·.1)).Nodup →
   es1[j]?=some e→m1[j]?=some (a,v0)→(∀ b,mset m1 a b=mset m a b)→∀ (w2:World) (b:ν),w2.heap[B]?=some (.map es1.toArray c1)→∃ w3,(Instr.entryStore mt (.map (some B)) (goInt e.born) (vE b)).run P w2 = .ok () w3∧IsMap w3 B kE vE (mset m a b)∧w2.grownBy w3 (some B)∧w3.heap.size=w2.heap.size:=by
  intro es1 c1 m1 j e v0 hr1 hn1 hbn1 hd1 hj hmj hms w2 b hw2
  have hlt2:B < w2.heap.size:=(Array.getElem?_eq_some_iff.1 hw2).1
  have hidx:=arr_findIdx hn1 hj
  refine ⟨{ w2 with heap:=w2.heap.setIfInBounds B (.map (es1.toArray.modify j fun e=>{ e with val:=vE b }) c1) }, ?_, ?_,grown _ _,by simp⟩
  ·simp [Instr.entryStore,Sem.run,hw2,getObj,setObj,asInt,asIntOf,goInt,hidx]
  ·rw [← hms b]
   refine ⟨es1.modify j fun e=>{ e with val:=vE b },c1,by simp [hlt2], ?_, ?_, ?_,mset_nodup hd1 a b⟩
   ·unfold mset
    have ha:a ∈ m1.map (·.1):=List.mem_map.2 ⟨_,List.mem_of_getElem? hmj,rfl⟩
    rw [if_pos ha]
    apply List.ext_getElem?
    intro i
    have hi:=congrArg (fun l=>l[i]?) hr1
    simp only [List.getElem?_map] at hi
    simp only [List.getElem?_map,List.getElem?_modify]
    by_cases hij:j=i
    ·subst hij
     rw [hj,hmj] at hi
     simp only [Option.map_some,Option.some.injEq,Prod.mk.injEq] at hi
     simp [hj,hmj,hi.1]
    ·cases hmi:m1[i]? with
     | none=>rw [hmi] at hi; simp at hi; simp [hi,hij]
     | some p =>
      obtain ⟨ei,hei,hk1,hv1⟩:=get_at hr1 hmi
      have hne:¬ p.1=a:=by
       intro hpa
       have h1:(m1.map (·.1))[i]?=some a:=by rw [List.getElem?_map,hmi]; simp [hpa]
       have h2:(m1.map (·.1))[j]?=some a:=by rw [List.getElem?_map,hmj]; rfl
       have hjl:j < (m1.map (·.1)).length:=(List.getElem?_eq_some_iff.1 h2).1
       exact hij ((List.getElem?_inj hjl hd1).1 (h2.trans h1.symm))
      simp [hei,hij,hne,hk1,hv1]
   ·rw [show (es1.modify j fun e=>{ e with val:=vE b }).map (·.born)=es1.map (·.born) from by
     apply List.ext_getElem?
     intro i
     simp only [List.getElem?_map,List.getElem?_modify]
     split
     ·cases es1[i]? <;> rfl
     ·simp]
    exact hn1
   ·intro e0 he0
    obtain ⟨i,hi⟩:=List.mem_iff_getElem?.1 he0
    rw [List.getElem?_modify] at hi
    obtain ⟨e1,he1,rfl⟩:=Option.map_eq_some_iff.1 hi
    have:=hbn1 e1 (List.mem_of_getElem? he1)
    split <;> simpa using this
 rcases IsMap.find K hr hd a w with ⟨ha,hf⟩ | ⟨j,b0,e,hmj,hej,hek,hev,hg,hf⟩
 ·have hgn:mget m a=none:=mget_none ha
  have hms:mset m a z=m++[(a,z)]:=by unfold mset; rw [if_neg ha]
  rw [hgn]
  simp only [Option.getD_none]
  have hr1:(es++[({ key:=kE a,val:=vE z,born:=c }:MapEntry)]).map (fun e=>(e.key,e.val))=(m++[(a,z)]).map (fun p=>(kE p.1,vE p.2)):=by rw [List.map_append,List.map_append,hr]; rfl
  have hn1:((es++[({ key:=kE a,val:=vE z,born:=c }:MapEntry)]).map (·.born)).Nodup:=by
   rw [List.map_append]
   refine List.nodup_append.2 ⟨hn,by simp,fun x hx y hy e => ?_⟩
   simp only [List.map_cons,List.map_nil,List.mem_singleton] at hy
   obtain ⟨e0,he0,rfl⟩:=List.mem_map.1 hx
   have:=hbn e0 he0
   omega
  have hbn1:∀ e ∈ es++[({ key:=kE a,val:=vE z,born:=c }:MapEntry)],e.born < c + 1:=by
   intro e0 he0
   rcases List.mem_append.1 he0 with h1 | h1
   ·have:=hbn e0 h1; omega
   ·simp only [List.mem_singleton] at h1; subst h1; simp
  have hd1:((m++[(a,z)]).map (·.1)).Nodup:=by rw [← hms]; exact mset_nodup hd a z
  have hl:es.length=m.length:=by have:=congrArg List.length hr; simpa using this
  refine ⟨c,{ w with heap:=w.heap.setIfInBounds B (.map (es++[({ key:=kE a,val:=vE z,born:=c }:MapEntry)]).toArray (c + 1)) }, ?_, ?_,grown _ _,by simp, ?_⟩
  ·unfold Instr.mapEntry
   simp [run_underlying hm,Sem.run,hb,K.check,hf,hz,getObj,setObj]
  ·rw [hms]
   exact ⟨_,c + 1,by simp [hlt],hr1,hn1,hbn1,hd1⟩
  ·intro w2 b hw2
   have hb2:w2.heap[B]?=some (.map (es++[({ key:=kE a,val:=vE z,born:=c }:MapEntry)]).toArray (c + 1)):=by rw [hw2]; simp [hlt]
   exact store _ _ (m++[(a,z)]) es.length ({ key:=kE a,val:=vE z,born:=c }:MapEntry) z hr1 hn1 hbn1 hd1 (by simp) (by rw [hl]; simp) (fun b=>by
    unfold mset
    rw [if_neg ha,if_pos (by simp),List.map_append]
    congr 1
    ·conv=>rhs; rw [← List.map_id m]
     refine List.map_congr_left fun p hp => ?_
     have:p.1 ≠ a:=fun e=>ha (by rw [← e]; exact List.mem_map_of_mem hp)
     simp [this]
    ·simp) w2 b hb2
 ·rw [hg]
  simp only [Option.getD_some]
  have hsm:mset m a b0=m:=by
   unfold mset
   rw [if_pos (List.mem_map.2 ⟨_,List.mem_of_getElem? hmj,rfl⟩)]
   conv=>rhs; rw [← List.map_id m]
   refine List.map_congr_left fun p hp => ?_
   by_cases e1:p.1=a
   ·have:=mget_of_mem hd hp
    rw [e1,hg] at this
    injection this with this
    show (if p.1=a then (a,b0) else p)=id p
    rw [if_pos e1]
    exact Prod.ext e1.symm this
   ·simp [e1]
  have hmod:es.modify j (fun e=>{ e with key:=kE a })=es:=by
   apply List.ext_getElem?
   intro i
   rw [List.getElem?_modify]
   by_cases hij:j=i
   ·subst hij
    rw [hej]
    show some (if j=j then ({ e with key:=kE a }:MapEntry) else e)=some e
    rw [if_pos rfl, ← hek]
   ·cases es[i]? with
    | none=>rfl
    | some x =>
     show some (if j=i then ({ x with key:=kE a }:MapEntry) else x)=some x
     rw [if_neg hij]
  refine ⟨e.born,{ w with heap:=w.heap.setIfInBounds B (.map es.toArray c) }, ?_, ?_,grown _ _,by simp, ?_⟩
  ·unfold Instr.mapEntry
   simp [run_underlying hm,Sem.run,hb,K.check,hf,getObj,setObj,hej,hek,K.stays,hmod]
  ·rw [hsm]
   exact ⟨es,c,by simp [hlt],hr,hn,hbn,hd⟩
  ·intro w2 b hw2
   have hb2:w2.heap[B]?=some (.map es.toArray c):=by rw [hw2]; simp [hlt]
   exact store es c m j e b0 hr hn hbn hd hej hmj (fun _=>rfl) w2 b hb2
theorem wpList_entryStore {ops:Array Oper} {rest:List Oper} {o:Oper} {a:Act} {Q:Exit→Act→World→Prop} (w w1:World)
  (hgd:o.guard=none) (mo so xo:Operand) (mt:TypeId) (hop:o.op=Op.entryStore mt mo so xo) (B st:Nat) (m:List (κ × ν)) (k:κ) (b:ν)
  (hM:a.eval mo = .map (some B)) (hs:a.eval so=goInt st) (hx:a.eval xo=vE b) (hw:w.heap[B]?=w1.heap[B]?)
  (h:Hid (∀ (w2:World) (b:ν),w2.heap[B]?=w1.heap[B]?→∃ w3,(Instr.entryStore mt (.map (some B)) (goInt st) (vE b)).run P w2 = .ok () w3∧IsMap w3 B kE vE (mset m k b)∧w2.grownBy w3 (some B)∧w3.heap.size=w2.heap.size))
  (hK:∀ w3,IsMap w3 B kE vE (mset m k b)→w.grownBy w3 (some B)→w3.heap.size=w.heap.size→wpList P ops Q rest (a.put o.dst undef) w3):wpList P ops Q (o :: rest) a w:=by
 refine wpList_plain hgd fun K' hK' => ?_
 obtain ⟨w3,hrun,r1,r2,r3⟩:=h.out w b hw
 unfold Oper.wp
 simp [execOp,hop,hM,hs,hx,hrun,Result.andThen]
 exact hK' _ _ (hK w3 r1 r2 r3)
end
end Go.Proofs.YtakaalldbnklcaaGreat
namespace Go.Proofs
open Go.Shelf
def Tryz.sortAcc_ren:Go.Shelf.Ren:=⟨fun | 6=>90 | 15=>113 | 14=>131 | 28=>155 | 29=>156 | 20=>187 | 21=>188 | 22=>189 | 23=>190 | 24=>191 | 25=>192 | 26=>193 | 27=>194 | 46=>230 | 47=>210 | 48=>211 | 49=>231 | 50=>232 | 57=>239 | n=>n,fun | 22=>141 | 24=>162 | 25=>240 | 3=>3 | 39=>265 | 0=>0 | 53=>299 | 55=>301 | 4=>4 | 46=>293 | 45=>292 | 50=>247 | 5=>5 | 9=>9 | 66=>333 | 70=>337 | 76=>352 | 77=>172 | n=>n,fun | n=>n⟩
theorem Tryz.sortAcc:SlLaysF0.n6 Tryz.prog Tryz.sortAcc_ren:={
 mixed:=by kernel_rfl
 f6:=⟨Tryz.f90.name,by decide,Tryz.func90.trans (congrArg some (by kernel_rfl))⟩
 f14:=⟨Tryz.f131.name,by decide,Tryz.func131.trans (congrArg some (by kernel_rfl))⟩
 f15:=Tryz.func113.trans (congrArg some (by kernel_rfl))
 f20:=⟨Tryz.f187.name,by decide,Tryz.func187.trans (congrArg some (by kernel_rfl))⟩
 f21:=⟨Tryz.f188.name,by decide,Tryz.func188.trans (congrArg some (by kernel_rfl))⟩
 f22:=⟨Tryz.f189.name,by decide,Tryz.func189.trans (congrArg some (by kernel_rfl))⟩
 f23:=⟨Tryz.f190.name,by decide,Tryz.func190.trans (congrArg some (by kernel_rfl))⟩
 f24:=⟨Tryz.f191.name,by decide,Tryz.func191.trans (congrArg some (by kernel_rfl))⟩
 f25:=⟨Tryz.f192.name,by decide,Tryz.func192.trans (congrArg some (by kernel_rfl))⟩
 f26:=⟨Tryz.f193.name,by decide,Tryz.func193.trans (congrArg some (by kernel_rfl))⟩
 f27:=⟨Tryz.f194.name,by decide,Tryz.func194.trans (congrArg some (by kernel_rfl))⟩
 f28:=Tryz.func155.trans (congrArg some (by kernel_rfl))
 f29:=Tryz.func156.trans (congrArg some (by kernel_rfl))
 f46:=⟨Tryz.f230.name,by decide,Tryz.func230.trans (congrArg some (by kernel_rfl))⟩
 f47:=Tryz.func210.trans (congrArg some (by kernel_rfl))
 f48:=Tryz.func211.trans (congrArg some (by kernel_rfl))
 f49:=⟨Tryz.f231.name,by decide,Tryz.func231.trans (congrArg some (by kernel_rfl))⟩
 f50:=⟨Tryz.f232.name,by decide,Tryz.func232.trans (congrArg some (by kernel_rfl))⟩
 f57:=⟨Tryz.f239.name,by decide,Tryz.func239.trans (congrArg some (by kernel_rfl))⟩
 t0:=Tryz.underlying0
 a0:=Tryz.isAgg0
 z0:=Tryz.sizeOf0
 v0:=Tryz.zeroValue0
 t3:=Tryz.underlying3
 a3:=Tryz.isAgg3
 z3:=Tryz.sizeOf3
 v3:=Tryz.zeroValue3
 t4:=Tryz.underlying4
 a4:=Tryz.isAgg4
 z4:=Tryz.sizeOf4
 v4:=Tryz.zeroValue4
 t5:=Tryz.underlying5
 a5:=Tryz.isAgg5
 z5:=Tryz.sizeOf5
 v5:=Tryz.zeroValue5
 t9:=Tryz.underlying9
 a9:=Tryz.isAgg9
 z9:=Tryz.sizeOf9
 v9:=Tryz.zeroValue9
 t22:=Tryz.underlying141
 a22:=Tryz.isAgg141
 z22:=Tryz.sizeOf141
 v22:=Tryz.zeroValue141
 t25:=Tryz.underlying240
 a25:=Tryz.isAgg240
 z25:=Tryz.sizeOf240
 v25:=Tryz.zeroValue240
 t39:=Tryz.underlying265
 a39:=Tryz.isAgg265
 z39:=Tryz.sizeOf265
 v39:=Tryz.zeroValue265
 t45:=Tryz.underlying292
 a45:=Tryz.isAgg292
 z45:=Tryz.sizeOf292
 v45:=Tryz.zeroValue292
 t46:=Tryz.underlying293
 a46:=Tryz.isAgg293
 z46:=Tryz.sizeOf293
 v46:=Tryz.zeroValue293
 t50:=Tryz.underlying247
 a50:=Tryz.isAgg247
 z50:=Tryz.sizeOf247
 v50:=Tryz.zeroValue247
 t53:=Tryz.underlying299
 a53:=Tryz.isAgg299
 z53:=Tryz.sizeOf299
 v53:=Tryz.zeroValue299
 t55:=Tryz.underlying301
 a55:=Tryz.isAgg301
 z55:=Tryz.sizeOf301
 v55:=Tryz.zeroValue301
 t66:=Tryz.underlying333
 a66:=Tryz.isAgg333
 z66:=Tryz.sizeOf333
 v66:=Tryz.zeroValue333
 t70:=Tryz.underlying337
 a70:=Tryz.isAgg337
 z70:=Tryz.sizeOf337
 v70:=Tryz.zeroValue337
 t76:=Tryz.underlying352
 a76:=Tryz.isAgg352
 z76:=Tryz.sizeOf352
 v76:=Tryz.zeroValue352
 t77:=Tryz.underlying172
 a77:=Tryz.isAgg172
 z77:=Tryz.sizeOf172
 v77:=Tryz.zeroValue172
}
end Go.Proofs
namespace Go.Proofs
open Go.Shelf
def Tryz.sortedI_ren:Go.Shelf.Ren:=⟨fun | 6=>39 | 8=>81 | 9=>82 | 11=>114 | 13=>113 | 12=>115 | 23=>155 | 24=>156 | 14=>157 | 15=>158 | 16=>159 | 17=>160 | 18=>161 | 19=>162 | 20=>163 | 21=>164 | 22=>165 | 25=>214 | 26=>210 | 27=>211 | 28=>215 | 29=>216 | 30=>80 | 31=>237 | n=>n,fun | 26=>3 | 28=>124 | 24=>23 | 0=>0 | 3=>3 | 37=>265 | 48=>299 | 50=>301 | 4=>4 | 40=>293 | 39=>292 | 45=>247 | 5=>5 | 9=>9 | 51=>333 | 55=>337 | 57=>352 | 58=>172 | 33=>225 | n=>n,fun | n=>n⟩
theorem Tryz.sortedI:SlLaysZI.n6 Tryz.prog Tryz.sortedI_ren:={
 mixed:=by kernel_rfl
 f6:=⟨Tryz.f39.name,by decide,Tryz.func39.trans (congrArg some (by kernel_rfl))⟩
 f8:=⟨Tryz.f81.name,by decide,Tryz.func81.trans (congrArg some (by kernel_rfl))⟩
 f11:=⟨Tryz.f114.name,by decide,Tryz.func114.trans (congrArg some (by kernel_rfl))⟩
 t0:=Tryz.underlying0
 a0:=Tryz.isAgg0
 z0:=Tryz.sizeOf0
 v0:=Tryz.zeroValue0
 t24:=Tryz.underlying23
 a24:=Tryz.isAgg23
 z24:=Tryz.sizeOf23
 v24:=Tryz.zeroValue23
 t26:=Tryz.underlying3
 a26:=Tryz.isAgg3
 z26:=Tryz.sizeOf3
 v26:=Tryz.zeroValue3
 t28:=Tryz.underlying124
 a28:=Tryz.isAgg124
 z28:=Tryz.sizeOf124
 v28:=Tryz.zeroValue124
 i26:=by kernel_rfl
}
end Go.Proofs
