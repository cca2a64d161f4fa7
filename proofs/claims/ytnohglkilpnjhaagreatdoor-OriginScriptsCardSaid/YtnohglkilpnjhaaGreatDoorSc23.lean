/- Lemmas that the statement of this claim leans on; their own comments are taken out, for the size of the claim. No condition beyond what each lemma states. -/
import Derived.Test.YtnohglkilpnjhaaGreatDoorSc22
import Derived.Shelf.SlSortCmp.WholeK
import Derived.Shelf.SlSortCmp.NoneTotal
set_option linter.unusedVariables false
set_option linter.unusedSimpArgs false
set_option linter.unusedSectionVars false
namespace Go.Proofs.YtnohglkilpnjhaaGreatDoor
open Go.RowKit
set_option maxRecDepth 100000
section
variable {e:TypeId} {α:Type} (R:RecT e α)
abbrev RecT.Ok:={ x:α // R.ok x }
instance RecT.okInh : Inhabited (RecT.Ok R) := ⟨⟨R.zero, R.zok⟩⟩
def RecT.encOk (x:RecT.Ok R):List Value:=R.cells x.1
def RecT.up (l:List α) (h:∀ x ∈ l,R.ok x):List (RecT.Ok R):=l.pmap (fun x hx=>⟨x,hx⟩) h
theorem RecT.up_val {l:List α} (h:∀ x ∈ l,R.ok x):(R.up l h).map Subtype.val = l:=by
 unfold RecT.up
 rw [List.map_pmap]
 simp
theorem RecT.up_len {l:List α} (h:∀ x ∈ l,R.ok x):(R.up l h).length = l.length:=by simp [RecT.up]
theorem RecT.enc_len (x:RecT.Ok R):(R.encOk x).length = R.n:=R.len x.2
theorem getBang {β:Type} [Inhabited β] (l:List β) (i:Nat) (hi:i < l.length):l.toArray[i]! = l[i]:=by
 rw [getElem!_pos l.toArray i (by simpa using hi)]
 simp
theorem RecT.flatK_at (d:List (RecT.Ok R)) (t:Nat) (ht:t < d.length * R.n):(R.flat (d.map Subtype.val))[t]? = some ((Sort.flatK R.encOk R.n d.toArray)[t]!):=by
 have hp:=R.pos
 have hi:t / R.n < d.length:=(Nat.div_lt_iff_lt_mul hp).2 ht
 have hm:t % R.n < R.n:=Nat.mod_lt _ hp
 rw [Sort.get_flatK _ _ _ _ (by simpa using ht),getBang _ _ hi]
 have h1:=R.flat_at (l:=d.map Subtype.val) (fun x hx=>by obtain ⟨y,_,rfl⟩:=List.mem_map.1 hx;exact y.2) (i:=t / R.n) (j:=t % R.n) (x:=(d[t / R.n]).1) (by simp [hi]) hm
 have h2:t / R.n * R.n + t % R.n = t:=Nat.div_add_mod' t R.n
 rw [h2] at h1
 rw [h1]
 have h3:=R.enc_len d[t / R.n]
 show (R.encOk d[t / R.n])[t % R.n]? = _
 rw [List.getElem?_eq_getElem (by omega),getElem!_pos _ _ (by omega)]
variable {R} {w:World} {base g cap:Nat} {l:List α}
theorem RecT.Own.holds (h:R.Own w base (.slice (some ⟨g,0,none⟩) l.length cap) l) (hok:∀ x ∈ l,R.ok x):Sort.HoldsK R.encOk R.n w g 0 (R.up l hok).toArray:=by
 intro t ht
 rw [Sort.size_flatK] at ht
 simp only [List.size_toArray,RecT.up_len] at ht
 rcases h.2.2 with ⟨h1,h2⟩ | ⟨g',cap',cur,hv,hb,hh,hn,hc,hs,hx⟩
 ·cases h1
 ·obtain ⟨rfl,rfl⟩:g = g'∧cap = cap':=by cases hv;exact ⟨rfl,rfl⟩
  have h3:=R.flatK_at (R.up l hok) t (by rw [RecT.up_len];exact ht)
  rw [R.up_val hok,← hx,List.getElem?_take,if_pos ht] at h3
  refine ⟨?_,by simp [World.frozen?,hh]⟩
  simp only [World.cell?,hh,Nat.zero_add,id_eq]
  simpa using h3
theorem RecT.Own.sorted (h:R.Own w base (.slice (some ⟨g,0,none⟩) l.length cap) l) (d:List (RecT.Ok R)) (hd:d.length = l.length) (n:Nat) (os:Array Obj) :
  R.Own (sortWorldK R.encOk R.n w g 0 n d.toArray os) base (.slice (some ⟨g,0,none⟩) l.length cap) (d.map Subtype.val)∧w.grownBy (sortWorldK R.encOk R.n w g 0 n d.toArray os) (some g):=by
 rcases h.2.2 with ⟨h1,h2⟩ | ⟨g',cap',cur,hv,hb,hh,hn,hc,hs,hx⟩
 ·cases h1
 ·obtain ⟨rfl,rfl⟩:g = g'∧cap = cap':=by cases hv;exact ⟨rfl,rfl⟩
  have hlt:g < w.heap.size:=(Array.getElem?_eq_some_iff.1 hh).1
  have hnew:(sortWorldK R.encOk R.n w g 0 n d.toArray os).heap[g]? = some (.cells (Sort.putCells id 0 (Sort.flatK R.encOk R.n d.toArray) cur) e (0,0)):=by
   show ((w.heap.modify g (Sort.onCells _)) ++ os)[g]? = _
   rw [Array.getElem?_append_left (by simpa using hlt),Array.getElem?_modify,if_pos rfl,hh]
   rfl
  have hdl:(d.map Subtype.val).length = l.length:=by rw [List.length_map,hd]
  refine ⟨⟨fun x hx=>by obtain ⟨y,_,rfl⟩:=List.mem_map.1 hx;exact y.2,?_,.inr ⟨g,cap,_,by rw [hdl],hb,hnew,by rw [hdl];exact hn,hc,by simp [Sort.putCells,hs],?_⟩⟩,⟨rfl,rfl,rfl,?_,?_⟩⟩
  ·exact R.flat_len (fun x hx=>by obtain ⟨y,_,rfl⟩:=List.mem_map.1 hx;exact y.2)
  ·rw [hdl]
   have hcap:l.length * R.n ≤ cap * R.n:=Nat.mul_le_mul_right _ hn
   refine List.ext_getElem? fun t=>?_
   by_cases ht:t < l.length * R.n
   ·rw [List.getElem?_take,if_pos ht,R.flatK_at d t (by rw [hd];exact ht)]
    have hts:t < cur.size:=by omega
    simp only [Sort.putCells,Array.getElem?_toList,Array.getElem?_mapIdx]
    rw [Array.getElem?_eq_getElem hts]
    simp only [Option.map_some,Nat.zero_le,true_and,Nat.zero_add,Nat.sub_zero,id_eq]
    rw [if_pos (by rw [Sort.size_flatK];simp only [List.size_toArray,hd];exact ht)]
   ·have hf:=R.flat_len (l:=d.map Subtype.val) (fun x hx=>by obtain ⟨y,_,rfl⟩:=List.mem_map.1 hx;exact y.2)
    rw [List.getElem?_eq_none (by simp;omega),List.getElem?_eq_none (by rw [hf,hdl];omega)]
  ·show w.heap.size ≤ ((w.heap.modify g (Sort.onCells _)) ++ os).size
   simp
  ·intro k hk hne
   show ((w.heap.modify g (Sort.onCells _)) ++ os)[k]? = _
   rw [Array.getElem?_append_left (by simpa using hk),Array.getElem?_modify,if_neg (fun e=>hne (by rw [e]))]
theorem sortedIn_list {β:Type} [Inhabited β] {lt:β→β→Bool} {d:List β} (h:Sort.SortedIn lt 0 d.length d.toArray):d.Pairwise (fun a b=>lt b a = false):=by
 rw [List.pairwise_iff_getElem]
 intro i j hi hj hij
 have:=h i j (Nat.zero_le _) hij hj
 rwa [getBang _ _ hi,getBang _ _ hj] at this
theorem permIn_list {β:Type} [Inhabited β] {d d':Array β} (h:Sort.PermIn 0 d.size d d'):d'.toList.Perm d.toList:=by
 obtain ⟨h1,_,h2⟩:=h
 have e1:d'.extract 0 d.size = d':=by rw [← h1];simp
 have e2:d.extract 0 d.size = d:=by simp
 rw [e1,e2] at h2
 exact h2
end
end Go.Proofs.YtnohglkilpnjhaaGreatDoor
namespace Go.Proofs.YtnohglkilpnjhaaGreatDoor
open Go.RowKit Go.Shelf
set_option maxRecDepth 100000
def sortP_ren:Go.Shelf.Ren:=⟨fun | 6=>155 | 15=>180 | 14=>179 | 28=>198 | 29=>199 | 20=>190 | 21=>191 | 22=>192 | 23=>193 | 24=>194 | 25=>195 | 26=>196 | 27=>197 | 46=>209 | 47=>210 | 48=>211 | 49=>212 | 50=>213 | 57=>218 | n=>n,fun | 22=>71 | 24=>137 | 25=>191 | 3=>3 | 39=>150 | 0=>0 | 53=>151 | 55=>38 | 4=>4 | 46=>260 | 45=>259 | 50=>138 | 5=>5 | 9=>9 | 66=>272 | 70=>275 | 76=>279 | 77=>280 | n=>n,fun | n=>n⟩
theorem sortP:Go.Proofs.SlLaysF0.n6 Tryz.prog sortP_ren where
 mixed:=by kernel_rfl
 f6 := ⟨ "slices.SortFunc[[]starling/api.Peer,starling/api.Peer]", by decide, Tryz.func155.trans (congrArg some (by kernel_rfl))⟩
 f14 := ⟨ "slices.pdqsortCmpFunc[starling/api.Peer]", by decide, Tryz.func179.trans (congrArg some (by kernel_rfl))⟩
 f15:=Tryz.func180.trans (congrArg some (by kernel_rfl))
 f20 := ⟨ "slices.insertionSortCmpFunc[starling/api.Peer]", by decide, Tryz.func190.trans (congrArg some (by kernel_rfl))⟩
 f21 := ⟨ "slices.heapSortCmpFunc[starling/api.Peer]", by decide, Tryz.func191.trans (congrArg some (by kernel_rfl))⟩
 f22 := ⟨ "slices.breakPatternsCmpFunc[starling/api.Peer]", by decide, Tryz.func192.trans (congrArg some (by kernel_rfl))⟩
 f23 := ⟨ "slices.choosePivotCmpFunc[starling/api.Peer]", by decide, Tryz.func193.trans (congrArg some (by kernel_rfl))⟩
 f24 := ⟨ "slices.reverseRangeCmpFunc[starling/api.Peer]", by decide, Tryz.func194.trans (congrArg some (by kernel_rfl))⟩
 f25 := ⟨ "slices.partialInsertionSortCmpFunc[starling/api.Peer]", by decide, Tryz.func195.trans (congrArg some (by kernel_rfl))⟩
 f26 := ⟨ "slices.partitionEqualCmpFunc[starling/api.Peer]", by decide, Tryz.func196.trans (congrArg some (by kernel_rfl))⟩
 f27 := ⟨ "slices.partitionCmpFunc[starling/api.Peer]", by decide, Tryz.func197.trans (congrArg some (by kernel_rfl))⟩
 f28:=Tryz.func198.trans (congrArg some (by kernel_rfl))
 f29:=Tryz.func199.trans (congrArg some (by kernel_rfl))
 f46 := ⟨ "slices.siftDownCmpFunc[starling/api.Peer]", by decide, Tryz.func209.trans (congrArg some (by kernel_rfl))⟩
 f47:=Tryz.func210.trans (congrArg some (by kernel_rfl))
 f48:=Tryz.func211.trans (congrArg some (by kernel_rfl))
 f49 := ⟨ "slices.medianAdjacentCmpFunc[starling/api.Peer]", by decide, Tryz.func212.trans (congrArg some (by kernel_rfl))⟩
 f50 := ⟨ "slices.medianCmpFunc[starling/api.Peer]", by decide, Tryz.func213.trans (congrArg some (by kernel_rfl))⟩
 f57 := ⟨ "slices.order2CmpFunc[starling/api.Peer]", by decide, Tryz.func218.trans (congrArg some (by kernel_rfl))⟩
 t0:=Tryz.underlying0
 a0:=Tryz.isAgg0
 z0:=Tryz.sizeOf0
 v0:=Tryz.zeroValue0
 t3:=Tryz.underlying3
 a3:=Tryz.isAgg3
 z3:=Tryz.sizeOf3
 v3:=Tryz.zeroValue3
 t4:=Tryz.underlying4
 a4:=Tryz.isAgg4
 z4:=Tryz.sizeOf4
 v4:=Tryz.zeroValue4
 t5:=Tryz.underlying5
 a5:=Tryz.isAgg5
 z5:=Tryz.sizeOf5
 v5:=Tryz.zeroValue5
 t9:=Tryz.underlying9
 a9:=Tryz.isAgg9
 z9:=Tryz.sizeOf9
 v9:=Tryz.zeroValue9
 t22:=Tryz.underlying71
 a22:=Tryz.isAgg71
 z22:=Tryz.sizeOf71
 v22:=Tryz.zeroValue71
 t25:=Tryz.underlying191
 a25:=Tryz.isAgg191
 z25:=Tryz.sizeOf191
 v25:=Tryz.zeroValue191
 t39:=Tryz.underlying150
 a39:=Tryz.isAgg150
 z39:=Tryz.sizeOf150
 v39:=Tryz.zeroValue150
 t45:=Tryz.underlying259
 a45:=Tryz.isAgg259
 z45:=Tryz.sizeOf259
 v45:=Tryz.zeroValue259
 t46:=Tryz.underlying260
 a46:=Tryz.isAgg260
 z46:=Tryz.sizeOf260
 v46:=Tryz.zeroValue260
 t50:=Tryz.underlying138
 a50:=Tryz.isAgg138
 z50:=Tryz.sizeOf138
 v50:=Tryz.zeroValue138
 t53:=Tryz.underlying151
 a53:=Tryz.isAgg151
 z53:=Tryz.sizeOf151
 v53:=Tryz.zeroValue151
 t55:=Tryz.underlying38
 a55:=Tryz.isAgg38
 z55:=Tryz.sizeOf38
 v55:=Tryz.zeroValue38
 t66:=Tryz.underlying272
 a66:=Tryz.isAgg272
 z66:=Tryz.sizeOf272
 v66:=Tryz.zeroValue272
 t70:=Tryz.underlying275
 a70:=Tryz.isAgg275
 z70:=Tryz.sizeOf275
 v70:=Tryz.zeroValue275
 t76:=Tryz.underlying279
 a76:=Tryz.isAgg279
 z76:=Tryz.sizeOf279
 v76:=Tryz.zeroValue279
 t77:=Tryz.underlying280
 a77:=Tryz.isAgg280
 z77:=Tryz.sizeOf280
 v77:=Tryz.zeroValue280
theorem ltOf_id (x y:RecT.Ok RPeer):ltOf (fun x y:RecT.Ok RPeer=>cmpI x.1.id y.1.id) x y = decide (x.1.id < y.1.id):=by
 unfold ltOf cmpI
 by_cases h1:x.1.id < y.1.id
 ·simp [h1]
 ·by_cases h2:y.1.id < x.1.id <;> simp [h1,h2]
theorem swo_id:Sort.SWO (ltOf fun x y:RecT.Ok RPeer=>cmpI x.1.id y.1.id) where
 irrefl x:=by rw [ltOf_id];simp
 trans x y z h1 h2:=by rw [ltOf_id] at *;simp at *;omega
 ntrans x y z h1 h2:=by rw [ltOf_id] at *;simp at *;omega
theorem peersCmp_lays (blk off size:Nat) (w:World):CmpLays Tryz.prog 104 #[] RPeer.encOk 3 (fun x y:RecT.Ok RPeer=>cmpI x.1.id y.1.id) blk off size w:=
 fun _ _ _ _ x y=>(PeersCmp_any x.1 y.1 _).mono fun _ _ ⟨h1,os,h2⟩=>⟨h1,0,os,h2⟩
theorem SortP_any (v:Value) (l:List PeerL) (w:World) (base:Nat) (ho:RPeer.Own w base v l) (hl:l.length ≤ 1000000) :
  Calls Tryz.prog 155 #[v,.func (.func 104) #[] #[]] w fun e w'=>
   e = .returned (.tuple #[])∧∃ l',l'.Perm l∧l'.Pairwise (fun a b=>a.id ≤ b.id)∧RPeer.Own w' base v l'∧w.grownBy w' v.ownBlock:=by
 rcases ho.2.2 with ⟨rfl,h0⟩ | ⟨g,cap,cur,rfl,hb,hh,hn,hc,hs,hx⟩
 ·have hl0:l = []:=List.length_eq_zero_iff.1 h0
  subst hl0
  exact (AnyF.slices_SortFunc_none sortP none 0 (.func (.func 104) #[] #[]) w).mono fun e w' ⟨h1,h2⟩=>⟨h1,[],List.Perm.refl _,List.Pairwise.nil,by rw [h2];exact ho,by rw [h2];exact World.grownBy.refl _ _⟩
 ·have eg:∀ args w,(callFunc 104 args).run Tryz.prog w = .ok (.enter 104 args) w:=enters_of Tryz.func104 (by kernel_rfl) rfl
  have hok:∀ x ∈ l,RPeer.ok x:=fun x _=>RPeer_ok x
  have hu:=RPeer.up_len hok
  have hcon:=AnyQ.slices_SortFunc sortP 3 Tryz.isAgg137 Tryz.sizeOf137 RPeer.encOk (fun x=>RPeer.enc_len x) (fun x v hv=>RPeer.one x.2 v hv) (fun x y=>cmpI x.1.id y.1.id) swo_id 104 #[] g 0 cap (RPeer.up l hok).toArray w eg (peersCmp_lays g 0 _ w) (ho.holds hok) ((Array.getElem?_eq_some_iff.1 hh).1) (by simp only [List.size_toArray,hu];omega)
  change Calls Tryz.prog 155 _ _ _ at hcon
  simp only [List.size_toArray,hu] at hcon
  refine hcon.mono ?_
  rintro e w' ⟨h1,d',n,os,hp,hst,rfl⟩
  obtain ⟨d,rfl⟩:∃ d:List (RecT.Ok RPeer),d' = d.toArray:=⟨d'.toList,by simp⟩
  have hd:d.length = l.length:=by have:=hp.1;simpa [hu] using this
  have hp2:=permIn_list (d:=(RPeer.up l hok).toArray) (by simpa [hu] using hp)
  have hp3:=hp2.map Subtype.val
  simp only [RPeer.up_val hok] at hp3
  have hs2:=sortedIn_list (d:=d) (by rw [hd];exact hst)
  obtain ⟨k1,k2⟩:=ho.sorted d hd n os
  refine ⟨h1,d.map Subtype.val,hp3,?_,k1,k2⟩
  rw [List.pairwise_map]
  exact hs2.imp fun {a b} h=>by rw [ltOf_id] at h;simpa using h
theorem rise_sorted {α:Type} {f:α→Int} {l l':List α} (h:Rising f l) (hp:l'.Perm l) (hs:l'.Pairwise (fun a b=>f a ≤ f b)):l' = l:=by
 have h1:l'.Pairwise (fun a b=>f a ≠ f b):=(hp.symm.pairwise_iff (fun {a b} (h:f a ≠ f b)=>h.symm)).1 h.apart
 have h2:Rising f l':=(hs.and h1).imp fun {a b} ⟨h3,h4⟩=>by omega
 exact h2.perm_eq h hp
end Go.Proofs.YtnohglkilpnjhaaGreatDoor
namespace Go.Proofs.YtnohglkilpnjhaaGreatDoor
open Go.RowKit
set_option maxRecDepth 100000
set_option maxHeartbeats 800000 in
theorem SortedP_any (m:Value) (ps:List PeerL) (w W:World) (hm:MapV KInt w m (ps.map inE)) (hr:Rising PeerL.id ps) (hl:ps.length ≤ 1000000) (hW:W = w.alloc (.cells #[m] 168)) :
  Calls Tryz.prog 102 #[.func (.func 156) #[] #[.pointer (some ⟨w.heap.size,0,none⟩)],.func (.func 104) #[] #[]] W
   fun e w'=>∃ v,e = .returned v∧RPeer.Own w' W.heap.size v ps∧Below w.heap.size w w':=by
 have hC:=collectPeers m ps w W hm hl hW
 have hS:W.heap.size = w.heap.size + 1:=by rw [hW];simp
 have HC:=Lib.hid hC
 have HR:=Lib.hid hr
 have HS:=Lib.hid hS
 clear hC hr hm hW hS
 go_enter Tryz.func102,Tryz.ntmps102
 go_upto_region 2 with (go_at_call 133;refine HC.out.mono ?_;rintro e w2 ⟨v2,qs,rfl,hp2,ho2,hb2⟩;have HP2:=Lib.hid hp2;have HO2:=Lib.hid ho2;have HB2:=Lib.hid hb2;clear hp2 ho2 hb2)
 obtain ⟨a2,c2,hv⟩:=HO2.out.row.len
 subst hv
 have hlt:=HO2.out.lt
 have HS2:=Lib.hid (SortP_any _ qs w2 _ HO2.out (by rw [HP2.out.length_eq];exact hl))
 have HLT:=Lib.hid hlt
 clear hlt
 go_wp2_with (go_at_call 155;refine HS2.out.mono ?_;rintro e w3 ⟨rfl,l',hp3,hs3,ho3,hg3⟩;have hB3:=HB2.out.grown hg3 (by have:=HB2.out.size;omega) (fun k e=>by have:=(HLT.out k e).1;have:=HS.out;omega);have he3:=rise_sorted HR.out (hp3.trans HP2.out) hs3;have HO3:=Lib.hid ho3;have HB3:=Lib.hid hB3;have HE3:=Lib.hid he3;clear ho3 hB3 he3 hp3 hs3 hg3)
 go_ret
 exact ⟨_,rfl,by have:=HO3.out;rwa [HE3.out] at this,HB3.out⟩
theorem TabP.inner {w:World} {t mb:Nat} {most each:Int} {E:EntL} (h:TabP w t most each mb E) (hd:∀ x ∈ E,x.1.length = 32) {d:List UInt8} (h32:d.length = 32) :
  ∃ m,(∀ w',Below w.heap.size w w'→(Instr.lookup 155 (.map (some mb)) (.agg (d.map B8).toArray) false).run Tryz.prog w' = .ok m w')∧MapV KInt w m ((peersT d (tabOf E)).map inE)∧((getK kD (natL d) E = none∧m = .map none)∨∃ x,getK kD (natL d) E = some x∧m = .map (some x.2.1)):=by
 refine ⟨(getL (E.map outE) d).getD (.map none),fun w' hb=>?_,?_,?_⟩
 ·exact (h.map.of_new hb).look (t:=155) Tryz.underlying155 (zero_peers w') (KT:=KDig) h32
 ·rw [getL_out hd h32]
  unfold peersT
  rw [← tabOf_get]
  cases e:getK kD (natL d) E with
  | none=>exact .inr ⟨rfl,rfl⟩
  | some x=>exact .inl ⟨x.2.1,rfl,h.ins x (List.mem_of_find?_eq_some e)⟩
 ·rw [getL_out hd h32]
  cases e:getK kD (natL d) E with
  | none=>exact .inl ⟨rfl,rfl⟩
  | some x=>exact .inr ⟨x,rfl,rfl⟩
set_option maxHeartbeats 1600000 in
theorem Peers_any (t mb:Nat) (most each:Int) (E:EntL) (d:List UInt8) (w:World) (hT:TabP w t most each mb E) (hE:EntOk most each E) (he:1 ≤ each∧each ≤ 64) (h32:d.length = 32) :
  Calls Tryz.prog 64 #[.pointer (some ⟨t,0,none⟩),.agg (d.map B8).toArray] w fun e w'=>∃ v,e = .returned v∧RPeer.Own w' w.heap.size v (peersT d (tabOf E))∧Below w.heap.size w w':=by
 obtain ⟨W,hW⟩:∃ W,w.alloc (.cells (d.map B8).toArray 31) = W:=⟨_,rfl⟩
 have ho:DigO W w.heap.size d:=by rw [← hW];exact digO_new w h32
 have hb:Below w.heap.size w W:=by rw [← hW];exact (Below.refl _ w).alloc (Nat.le_refl _) _
 have hTW:=hT.of_new hb
 obtain ⟨m,hlk,hmv,hsh⟩:=hTW.inner (fun x hx=>hE.dig _ (tabOf_mem hx)) h32
 obtain ⟨hps,hpl⟩:=peersT_ok hE he.1 d
 obtain ⟨ps,hps2⟩:∃ ps,peersT d (tabOf E) = ps:=⟨_,rfl⟩
 rw [hps2] at hmv hps hpl ⊢
 have hc2:=fun w' (h:Grew W w')=>Grew.cell h hTW.cell2
 have hdg:DigAt W w.heap.size 0 d:=ho.at_
 have HW:=Lib.hid hW
 have HB:=Lib.hid hb
 have HMV:=Lib.hid hmv
 have HPS:=Lib.hid hps
 have hlk2:∀ w',Grew W w'→(Instr.lookup 155 (.map (some mb)) (.agg (d.map B8).toArray) false).run Tryz.prog w' = .ok m w':=hlk
 have hm2:(∃ b,m = .map (some b))∨m = .map none:=hsh.elim (fun h=>.inr h.2) (fun ⟨x,h⟩=>.inl ⟨_,h.2⟩)
 have HM2:=Lib.hid hm2
 clear hT hE hW hb hTW hlk hmv hsh hps hps2 ho hm2
 go_enter Tryz.func64,Tryz.ntmps64
 go_upto_region 1 with (fail)
 rw [HW.out]
 refine wp_region_grew_tail 6 (by kernel_rfl) (by kernel_rfl) ?_
 simp only [List.take_succ_cons,List.take_zero,List.drop_succ_cons,List.drop_zero]
 repeat (first
  | (go_big_quiet_want;(with_reducible apply quiet_load_at (ty:=31) (x:=.tmp _));rfl;rfl;assumption;go_simp;go_big_quiet_on)
  | (go_big_quiet_want;apply quiet_val;(intro w' hw';go_simp;first | done | rfl);go_simp;go_big_quiet_on)
  | (go_big_quiet_skip))
 refine wpQuiet_nil ?_
 intro w5 hw5
 have HB5:=Lib.hid (below_next HB.out hw5)
 obtain ⟨W6,hW6⟩:∃ W6,w5.alloc (.cells #[m] 168) = W6:=⟨_,rfl⟩
 have hV:=Values_any m w5 HM2.out
 rw [hW6] at hV
 have hS:=SortedP_any m ps w5 W6 (HMV.out.of_new hw5) HPS.out.rise (by omega) hW6.symm
 have HV:=Lib.hid hV
 have HS:=Lib.hid hS
 have HS6:=Lib.hid (show w.heap.size ≤ W6.heap.size by have:=HB5.out.size;rw [← hW6];simp;omega)
 clear hV hS hW6 hw5 hlk2 hc2 hdg
 go_wp2_with (first
  | (go_at_call 103;refine HV.out.mono ?_;rintro e w6 ⟨rfl,rfl⟩)
  | (go_at_call 102;refine HS.out.mono ?_;rintro e w7 ⟨v7,rfl,ho7,hb7⟩;have HO7:=Lib.hid ho7;have HB7:=Lib.hid (below_next HB5.out hb7);clear ho7 hb7))
 go_ret
 exact ⟨_,rfl,HO7.out.mono HS6.out,HB7.out⟩
def tabC (T:TabL) (a b:List UInt8):Int:=orL [cmpI (lastP (peersT a T)) (lastP (peersT b T)),cmpL b a]
theorem tabC_goes (T:TabL) {a b:List UInt8} (ha:a.length = 32) (hb:b.length = 32):decide (tabC T a b < 0) = goesD T a b:=by
 unfold tabC
 rw [orL_two,cmpL_sign b a (by omega)]
 show _ = goesV (lastP (peersT a T)) (lastP (peersT b T)) (natL a) (natL b)
 generalize lastP (peersT a T) = x
 generalize lastP (peersT b T) = y
 generalize natL a = m
 generalize natL b = n
 unfold cmpI goesV
 by_cases h1:x < y
 ·simp [h1]
 ·by_cases h2:y < x
  ·have h3:¬ x = y:=by omega
   simp [h1,h2,h3]
  ·have h3:x = y:=by omega
   by_cases h4:n < m
   ·simp [h3,h4]
   ·by_cases h5:m < n <;> simp [h3,h4,h5]
structure TabB (w:World) (bt t mb:Nat) (most each:Int) (E:EntL):Prop where
 box:One w bt (.pointer (some ⟨t,0,none⟩)) 85
 tab:TabP w t most each mb E
theorem TabB.of_new {w w':World} {bt t mb:Nat} {most each:Int} {E:EntL} (h:TabB w bt t mb most each E) (hb:Below w.heap.size w w'):TabB w' bt t mb most each E:=⟨h.box.of_new hb,h.tab.of_new hb⟩
set_option maxHeartbeats 3200000 in
theorem TabCmp_any (bt t mb:Nat) (most each:Int) (E:EntL) (a b:List UInt8) (w:World) (hT:TabB w bt t mb most each E) (hd:∀ x ∈ E,x.1.length = 32) (ha:a.length = 32) (hb:b.length = 32) :
  Calls Tryz.prog 139 #[RDig.V a,RDig.V b,.pointer (some ⟨bt,0,none⟩)] w fun e w'=>e = .returned (.int .i64 (tabC (tabOf E) a b))∧Below w.heap.size w w':=by
 unfold tabC
 rw [show RDig.V a = .agg (a.map B8).toArray from rfl,show RDig.V b = .agg (b.map B8).toArray from rfl]
 obtain ⟨W,hW⟩:∃ W,(w.alloc (.cells (a.map B8).toArray 31)).alloc (.cells (b.map B8).toArray 31) = W:=⟨_,rfl⟩
 obtain ⟨h0,h1,hbW⟩:DigAt W w.heap.size 0 a∧DigAt W (w.heap.size + 1) 0 b∧Below w.heap.size w W:=by
  subst hW
  obtain ⟨q1,q2,q3,_⟩:=octs_pair w 31 a b _ _ rfl rfl
  exact ⟨q1.digAt ha,q2.digAt hb,q3⟩
 have hTW:=hT.of_new hbW
 obtain ⟨m1,hl1,hm1,hs1⟩:=hTW.tab.inner hd ha
 obtain ⟨m2,hl2,hm2,hs2⟩:=hTW.tab.inner hd hb
 obtain ⟨p1,hp1⟩:∃ p1,peersT a (tabOf E) = p1:=⟨_,rfl⟩
 obtain ⟨p2,hp2⟩:∃ p2,peersT b (tabOf E) = p2:=⟨_,rfl⟩
 rw [hp1] at hm1 ⊢
 rw [hp2] at hm2 ⊢
 have hcb:=fun w' (h:Grew W w')=>Grew.cell h hTW.box.cell
 have hc2:=fun w' (h:Grew W w')=>Grew.cell h hTW.tab.cell2
 have hk1:∀ w',Grew W w'→(Instr.lookup 155 (.map (some mb)) (.agg (a.map B8).toArray) false).run Tryz.prog w' = .ok m1 w':=hl1
 have hk2:∀ w',Grew W w'→(Instr.lookup 155 (.map (some mb)) (.agg (b.map B8).toArray) false).run Tryz.prog w' = .ok m2 w':=hl2
 have HW:=Lib.hid hW
 have HB:=Lib.hid hbW
 have HM1:=Lib.hid hm1
 have HM2:=Lib.hid hm2
 have HAa:=Lib.hid ha
 have HBb:=Lib.hid hb
 clear hT hTW hl1 hl2 hm1 hm2 hs1 hs2 hp1 hp2 hW hbW ha hb hd
 go_enter Tryz.func139,Tryz.ntmps139
 go_upto_region 1 with (fail)
 rw [HW.out]
 refine wp_region_grew_tail 18 (by kernel_rfl) (by kernel_rfl) ?_
 simp only [List.take_succ_cons,List.take_zero,List.drop_succ_cons,List.drop_zero]
 repeat (first
  | (go_big_quiet_want;(with_reducible apply quiet_load_at (ty:=31) (x:=.tmp _));rfl;rfl;assumption;go_simp;go_big_quiet_on)
  | (go_big_quiet_want;apply quiet_val;(intro w' hw';go_simp;first | done | rfl);go_simp;go_big_quiet_on)
  | (go_big_quiet_want;apply quiet_call (f:=140);(intro w' hw';go_simp;first | done | rfl);(intro w' hw';exact Grew.call hw' (PLast_any _ _ w' (by first | exact HM1.out.of_new hw' | exact HM2.out.of_new hw')));go_simp;go_big_quiet_on)
  | (go_big_quiet_want;apply quiet_call (f:=105);(intro w' hw';go_simp;first | done | rfl);(intro w' hw';exact Grew.call hw' (below_eq (CmpI_any _ _ w')));go_simp;go_big_quiet_on)
  | (go_big_quiet_want;apply quiet_call (f:=141);(intro w' hw';go_simp;first | done | rfl);(intro w' hw';exact Grew.call hw' (Compare_any b a w' HBb.out HAa.out));go_simp;go_big_quiet_on)
  | (go_big_quiet_skip))
 refine wpQuiet_nil ?_
 intro w9 hw9
 have HB9:=Lib.hid (below_next HB.out hw9)
 clear hcb hc2 hk1 hk2 h0 h1 hw9
 go_wp2_with (first | (go_at_call 136;refine (Or_any _ [cmpI (lastP p1) (lastP p2),cmpL b a] _ (two_ints w9 _ _ _)).mono ?_;rintro e w' ⟨rfl,rfl⟩))
 go_ret
 exact ⟨rfl,HB9.out.alloc (by have:=HB9.out.size;omega) _⟩
set_option maxHeartbeats 3200000 in
theorem MinD_any (bt t mb:Nat) (most each:Int) (E:EntL) (v:Value) (x:List UInt8) (l:List (List UInt8)) (w:World) (hT:TabB w bt t mb most each E) (hd:∀ x ∈ E,x.1.length = 32) (hl:RDig.Row w v (x :: l)) :
  Calls Tryz.prog 138 #[v,.func (.func 139) #[] #[.pointer (some ⟨bt,0,none⟩)]] w fun e w'=>e = .returned (RDig.V (pickL (goesD (tabOf E)) l x))∧Below w.heap.size w w':=by
 obtain ⟨pb,poff,pc,rfl,hpl,hat⟩:=hl.at_ (by simp)
 have hle:=hl.le
 have hx32:RDig.ok x:=hl.1 x (by simp)
 have HX:=Lib.hid hx32
 have HTB:=Lib.hid hT
 have HD:=Lib.hid hd
 clear hx32 hT hd
 simp only [List.length_cons] at hle ⊢
 have h0:=hat 0 x rfl
 rw [Nat.zero_mul,Nat.add_zero] at h0
 have H0:=Lib.hid h0
 have HAT:=Lib.hid (fun k y (h:l[k]? = some y)=>hat (k + 1) y (by simpa using h))
 have hn:¬ ((l.length + 1:Nat):Int) < 1:=by omega
 have hn1:(0:Int) < ((l.length + 1:Nat):Int):=by omega
 obtain ⟨N,hN⟩:∃ N,l.length + 1 = N:=⟨_,rfl⟩
 rw [hN] at hle hn hn1 ⊢
 have HN:=Lib.hid hN
 clear hl hat h0 hN
 go_enter Tryz.func138,Tryz.ntmps138
 go_upto_region 5 with (first
  | ((with_reducible refine wpList_plain (o:=⟨some 4,Op.alloc _,_,_,_,_⟩) rfl fun K hK=>?_);(refine RDig.wp_alloc rfl fun w1 ho1 hb1 hs1=>hK _ _ ?_);have HO1:=Lib.hid ho1;have HB1:=Lib.hid hb1;have HS1:=Lib.hid hs1;have HA1:=Lib.hid (H0.out.of_new hb1);clear ho1 hb1 hs1)
  | ((with_reducible refine wpList_plain (o:=⟨some 13,Op.load _ _,_,_,_,_⟩) rfl fun K hK=>?_);(refine HA1.out.wp rfl rfl (hK _ _ ?_)))
  | ((with_reducible refine wpList_plain (o:=⟨some 5,Op.alloc _,_,_,_,_⟩) rfl fun K hK=>?_);(refine RDig.wp_alloc rfl fun w2 ho2 hb2 hs2=>hK _ _ ?_);have HO2:=Lib.hid ho2;have HB2:=Lib.hid hb2;clear ho2 hb2 hs2)
  | ((with_reducible refine wpList_plain (o:=⟨none,Op.store _ (.tmp 5) (.tmp 13),_,_,_,_⟩) rfl fun K hK=>?_);(refine HO2.out.store (.tmp 5) (.tmp 13) rfl rfl rfl HX.out fun w3 ho3 hg3 hs3=>hK _ _ ?_);have hb3:=HB2.out.grown hg3 (by have:=HB2.out.size;omega) (fun k e=>by cases e;exact Nat.le_refl _);have HO3:=Lib.hid ho3;have HB3:=Lib.hid hb3;have HR3:=Lib.hid (HO1.out.of_new hb3);clear ho3 hg3 hs3 hb3))
 have hb3:=below_next HB1.out HB3.out
 have hr3:=HR3.out
 have ho3:=HO3.out
 clear hn
 go_loopw [6] (fun iv W=>∃ k m,k ≤ l.length∧iv = .int .i64 ((k + 1:Nat):Int)∧pickL (goesD (tabOf E)) l x = pickL (goesD (tabOf E)) (l.drop k) m∧RDig.O W w1.heap.size m∧RDig.O W w.heap.size dig0∧Below w.heap.size w W) (fun iv _=>N - (intOf iv).toNat)
 case atStart=>exact ⟨0,x,Nat.zero_le _,rfl,rfl,ho3,hr3,hb3⟩
 case round=>
  clear ho3 hr3 hb3
  obtain ⟨k,m,hk,rfl,hp,ho,hz,hb⟩:=hrel
  have HO:=Lib.hid ho
  have HZ:=Lib.hid hz
  have HB:=Lib.hid hb
  have HK:=Lib.hid hk
  by_cases hlt:k < l.length
  ·obtain ⟨y,hy⟩:∃ y,l[k]? = some y:=⟨_,List.getElem?_eq_getElem hlt⟩
   have hdr:l.drop k = y :: l.drop (k + 1):=by rw [List.drop_eq_getElem_cons hlt];rw [List.getElem?_eq_getElem hlt] at hy;cases hy;rfl
   have hp2:pickL (goesD (tabOf E)) l x = pickL (goesD (tabOf E)) (l.drop (k + 1)) (if goesD (tabOf E) y m then y else m):=by rw [hp,hdr];rfl
   have hA:=(HAT.out k y hy).of_new hb
   have hy32:RDig.ok y:=hA.1
   have hm32:RDig.ok m:=ho.2
   have HY:=Lib.hid hy32
   rw [← tabC_goes (tabOf E) hy32 hm32] at hp2
   have hC:=fun w' (h:Grew wr w')=>TabCmp_any bt t mb most each E y m w' (HTB.out.of_new (below_next hb h)) HD.out hy32 hm32
   clear hy32 hm32
   generalize tabC (tabOf E) y m = c at *
   obtain ⟨jj,hjj⟩:∃ jj,k + 1 = jj:=⟨_,rfl⟩
   rw [hjj] at hp2 hA ⊢
   have hKN:(jj:Int) < (N:Int):=by have:=HN.out;omega
   have hKl:jj ≤ l.length:=by omega
   have HK2:=Lib.hid hjj
   have HP:=Lib.hid hp2
   have HA:=Lib.hid hA
   have HC:=Lib.hid hC
   clear hp hdr hy hA hC hp2 ho hz hb hjj hk
   by_cases hc:c < 0
   ·have hd:decide (c < 0) = true:=decide_eq_true hc
    go_upto_region 7 with (fail)
    refine wp_region_grew (by kernel_rfl) (by kernel_rfl) ?_
    repeat (first
     | (go_big_quiet_want;(refine RecT.At.quiet (R:=RDig) (p:=.tmp 5) (fun w' hw'=>(HO.out.of_new hw').at_) rfl rfl ?_);go_simp;go_big_quiet_on)
     | (go_big_quiet_want;(refine RecT.At.quiet (R:=RDig) (p:=.tmp 23) (fun w' hw'=>HA.out.of_new hw') rfl rfl ?_);go_simp;go_big_quiet_on)
     | (go_big_quiet_want;(with_reducible apply quiet_load_at (ty:=31) (x:=.tmp _));rfl;rfl;assumption;go_simp;go_big_quiet_on)
     | (go_big_quiet_want;apply quiet_val;(intro w' hw';go_simp;first | done | rfl);go_simp;go_big_quiet_on)
     | (go_big_quiet_want;apply quiet_call (f:=139);(intro w' hw';go_simp;first | done | rfl);(intro w' hw';exact Grew.call hw' (HC.out w' hw'));go_simp;go_big_quiet_on)
     | (go_big_quiet_skip))
    refine wpQuiet_nil ?_
    intro w5 hw5
    have HO5:=Lib.hid (HO.out.of_new hw5)
    have HZ5:=Lib.hid (HZ.out.of_new hw5)
    have HB5:=Lib.hid (below_next HB.out hw5)
    have HA5:=Lib.hid (HA.out.of_new hw5)
    clear hw5
    go_wp2_with (first
     | ((with_reducible refine wpList_plain (o:=⟨some 31,Op.load _ _,_,_,_,_⟩) rfl fun K hK=>?_);(refine HA5.out.wp rfl rfl (hK _ _ ?_)))
     | ((with_reducible refine wpList_plain (o:=⟨none,Op.store _ (.tmp 5) (.tmp 31),_,_,_,_⟩) rfl fun K hK=>?_);(refine HO5.out.store (.tmp 5) (.tmp 31) rfl rfl rfl HY.out fun w6 ho6 hg6 hs6=>hK _ _ ?_);have HO6:=Lib.hid ho6;have HG6:=Lib.hid hg6;clear ho6 hg6 hs6))
    have hs1:=HS1.out
    go_roundw
    case rel=>exact ⟨jj,y,hKl,by go_num,by rw [HP.out,hd];rfl,HO6.out,HZ5.out.of_block (HG6.out.block _ HZ5.out.lt (fun e=>by have:=Option.some.inj e;omega)),HB5.out.grown HG6.out (by have:=HB5.out.size;omega) (fun r e=>by cases e;omega)⟩
    case measure=>simp [intOf];omega
   ·have hd:decide (c < 0) = false:=decide_eq_false hc
    go_upto_region 7 with (fail)
    refine wp_region_grew (by kernel_rfl) (by kernel_rfl) ?_
    repeat (first
     | (go_big_quiet_want;(refine RecT.At.quiet (R:=RDig) (p:=.tmp 5) (fun w' hw'=>(HO.out.of_new hw').at_) rfl rfl ?_);go_simp;go_big_quiet_on)
     | (go_big_quiet_want;(refine RecT.At.quiet (R:=RDig) (p:=.tmp 23) (fun w' hw'=>HA.out.of_new hw') rfl rfl ?_);go_simp;go_big_quiet_on)
     | (go_big_quiet_want;(with_reducible apply quiet_load_at (ty:=31) (x:=.tmp _));rfl;rfl;assumption;go_simp;go_big_quiet_on)
     | (go_big_quiet_want;apply quiet_val;(intro w' hw';go_simp;first | done | rfl);go_simp;go_big_quiet_on)
     | (go_big_quiet_want;apply quiet_call (f:=139);(intro w' hw';go_simp;first | done | rfl);(intro w' hw';exact Grew.call hw' (HC.out w' hw'));go_simp;go_big_quiet_on)
     | (go_big_quiet_skip))
    refine wpQuiet_nil ?_
    intro w5 hw5
    go_wp2
    go_roundw
    case rel=>exact ⟨jj,m,hKl,by go_num,by rw [HP.out,hd];rfl,HO.out.of_new hw5,HZ.out.of_new hw5,below_next HB.out hw5⟩
    case measure=>simp [intOf];omega
  ·have hKN:¬ ((k + 1:Nat):Int) < (N:Int):=by have:=HN.out;omega
   rw [List.drop_of_length_le (by omega)] at hp
   have HP:=Lib.hid hp
   have hs1:=HS1.out
   clear hp ho hz hb
   go_wp2_with (first
    | ((with_reducible refine wpList_plain (o:=⟨some 32,Op.load _ _,_,_,_,_⟩) rfl fun K hK=>?_);(refine HO.out.at_.wp rfl rfl (hK _ _ ?_)))
    | ((with_reducible refine wpList_plain (o:=⟨none,Op.store _ (.tmp 4) (.tmp 32),_,_,_,_⟩) rfl fun K hK=>?_);(refine HZ.out.store (.tmp 4) (.tmp 32) rfl rfl rfl HO.out.2 fun w6 ho6 hg6 hs6=>hK _ _ ?_);have HO6:=Lib.hid ho6;have HB6:=Lib.hid (HB.out.grown hg6 (by have:=HB.out.size;omega) (fun k e=>by cases e;exact Nat.le_refl _));clear ho6 hg6 hs6))
   refine bodyPost_ret (RecT.results1 rfl _ rfl HO6.out) rfl ?_
   exact ⟨by rw [HP.out];rfl,HB6.out⟩
end Go.Proofs.YtnohglkilpnjhaaGreatDoor
namespace Go.Proofs.YtnohglkilpnjhaaGreatDoor
open Go.RowKit Go.Shelf
attribute [local go_sem] Oper.semAt_some
set_option maxRecDepth 100000
theorem collectKeys (m:Value) (E:EntL) (w W:World) (hm:MapV KDig w m (E.map outE)) (hd:∀ x ∈ E,x.1.length = 32) (hl:E.length ≤ 1000000) (hW:W = w.alloc (.cells #[m] 155)) :
  Calls Tryz.prog 75 #[.func (.func 169) #[] #[.pointer (some ⟨w.heap.size,0,none⟩)]] W fun e w'=>∃ v qs,e = .returned v∧qs.Perm ((tabOf E).map (·.1))∧RDig.Own w' W.heap.size v qs∧Below w.heap.size w w':=by
 have hs:W.heap.size = w.heap.size + 1:=by rw [hW];simp
 have hb:Below w.heap.size w W:=by rw [hW];exact (Below.refl _ w).alloc (Nat.le_refl _) _
 have ho:One W w.heap.size m 155:=by rw [hW];exact heap_alloc_new w _
 have hL:∀ x ∈ E.map outE,x.1.length = 32:=fun x hx=>by obtain ⟨q,hq,rfl⟩:=List.mem_map.1 hx;exact hd q hq
 refine (CollectK_any _ _ (E.map outE) w.heap.size (fun j=>j = w.heap.size) W hL (by simpa using by omega) (by omega) (fun k hk=>by subst hk;omega)
  (enters_of Tryz.func169 (by kernel_rfl) rfl)
  (fun W1 hb1 hs1=>keys_seq 4 (by omega) w.heap.size w.heap.size m (E.map outE) W1 w rfl (hb.trans (hb1.mono (by omega))) (Nat.le_refl _) (ho.of_new hb1) hm hL)).mono ?_
 rintro e w' ⟨v,qs,rfl,hp,hown,hbw⟩
 refine ⟨v,qs,rfl,?_,hown,hb.trans hbw⟩
 refine hp.trans (List.Perm.of_eq ?_)
 unfold tabOf
 rw [List.map_map,List.map_map]
 rfl
set_option maxHeartbeats 1600000 in
theorem TFirst_any (t mb:Nat) (most each:Int) (E:EntL) (w:World) (hT:TabP w t most each mb E) (hr:Rising kD (tabOf E)) (hd:∀ x ∈ E,x.1.length = 32) (h0:E ≠ []) (hl:E.length ≤ 1000000) :
  Calls Tryz.prog 84 #[.pointer (some ⟨t,0,none⟩)] w fun e w'=>e = .returned (RDig.V (firstT (tabOf E)).1)∧(firstT (tabOf E)).1.length = 32∧Below w.heap.size w w':=by
 have hf32:(firstT (tabOf E)).1.length = 32:=by
  have hm:=firstT_mem (T:=tabOf E) (fun e=>h0 (List.map_eq_nil_iff.1 e))
  obtain ⟨x,hx,he⟩:=List.mem_map.1 hm
  rw [← he];exact hd x hx
 have HF32:=Lib.hid hf32
 have HT:=Lib.hid hT
 have HR:=Lib.hid hr
 have HD:=Lib.hid hd
 have H0:=Lib.hid h0
 have HL:=Lib.hid hl
 clear hT hr hd h0 hf32 hl
 go_enter Tryz.func84,Tryz.ntmps84
 go_upto_region 1 with ((with_reducible refine wpList_plain (o:=⟨some 2,Op.alloc _,_,_,_,_⟩) rfl fun K hK=>?_);(refine RDig.wp_alloc rfl fun w2 ho2 hb2 hs2=>hK _ _ ?_);have HO2:=Lib.hid (show RDig.O w2 (w.heap.size + 1) _ from by rw [World.size_alloc] at ho2;exact ho2);have HB2:=Lib.hid hb2;have HS2:=Lib.hid hs2;clear ho2 hb2 hs2)
 have hb1:Below w.heap.size w (w.alloc (.cells #[.pointer (some ⟨t,0,none⟩)] 85)):=(Below.refl _ w).alloc (Nat.le_refl _) _
 have hbx:One (w.alloc (.cells #[.pointer (some ⟨t,0,none⟩)] 85)) w.heap.size (.pointer (some ⟨t,0,none⟩)) 85:=heap_alloc_new w _
 have hTB:TabB w2 w.heap.size t mb most each E:=⟨hbx.of_new HB2.out,(HT.out.of_new hb1).of_new HB2.out⟩
 have hB2:Below w.heap.size w w2:=below_next hb1 HB2.out
 have hcb:=hTB.box.cell
 have hc2:=hTB.tab.cell2
 obtain ⟨W3,hW3⟩:∃ W3,w2.alloc (.cells #[.map (some mb)] 155) = W3:=⟨_,rfl⟩
 have hV:=Keys_any (.map (some mb)) w2 (.inl ⟨_,rfl⟩)
 rw [hW3] at hV
 have hC:=collectKeys (.map (some mb)) E w2 W3 (.inl ⟨_,rfl,hTB.tab.map⟩) HD.out HL.out hW3.symm
 have HTB:=Lib.hid hTB
 have HB:=Lib.hid hB2
 have HV:=Lib.hid hV
 have HC:=Lib.hid hC
 have HW3:=Lib.hid hW3
 clear hb1 hbx hTB hB2 hV hC hW3
 go_upto_region 2 with (first
  | (go_at_call 137;refine HV.out.mono ?_;rintro e w4 ⟨rfl,rfl⟩)
  | (go_at_call 75;refine HC.out.mono ?_;rintro e w5 ⟨v5,qs,rfl,hp5,ho5,hb5⟩;have HP5:=Lib.hid hp5;have HO5:=Lib.hid ho5;have HB5:=Lib.hid hb5;clear hp5 ho5 hb5))
 cases qs with
 | nil=>exact absurd (HP5.out.length_eq) (by simp [tabOf];exact fun e=>H0.out (List.length_eq_zero_iff.1 e.symm))
 | cons x l=>
  have hfp:=firstT_dig HR.out (fun y hy=>by obtain ⟨z,hz,rfl⟩:=List.mem_map.1 hy;exact HD.out z hz) HP5.out
  have hM:=MinD_any w.heap.size t mb most each E v5 x l w5 (HTB.out.of_new HB5.out) HD.out HO5.out.row
  rw [← hfp] at hM
  obtain ⟨a5,c5,hv⟩:=HO5.out.row.len
  subst hv
  have HM:=Lib.hid hM
  have HR5:=Lib.hid (HO2.out.of_new HB5.out)
  clear hM hfp
  go_wp2_with (first
   | (go_at_call 138;refine HM.out.mono ?_;rintro e w6 ⟨rfl,hb6⟩;have HR6:=Lib.hid (HR5.out.of_new hb6);have HB6:=Lib.hid (below_next HB5.out hb6);clear hb6)
   | ((with_reducible refine wpList_plain (o:=⟨none,Op.store _ (.tmp 2) (.tmp 12),_,_,_,_⟩) rfl fun K hK=>?_);(refine HR6.out.store (.tmp 2) (.tmp 12) rfl rfl rfl HF32.out fun w7 ho7 hg7 hs7=>hK _ _ ?_);have HO7:=Lib.hid ho7;have HG7:=Lib.hid hg7;clear ho7 hg7 hs7))
  refine bodyPost_ret (RecT.results1 rfl _ rfl HO7.out) rfl ?_
  exact ⟨rfl,HF32.out,(below_next HB.out HB6.out).grown HG7.out (by have:=HB.out.size;have:=HB6.out.size;omega) (fun k e=>by cases e;simp)⟩
end Go.Proofs.YtnohglkilpnjhaaGreatDoor
