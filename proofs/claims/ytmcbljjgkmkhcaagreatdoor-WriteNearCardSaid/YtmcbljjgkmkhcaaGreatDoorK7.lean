import Derived.Lib.ItoaLen
import Derived.Test.YtmcbljjgkmkhcaaGreatDoorK6
set_option linter.unusedSimpArgs false
set_option linter.unusedVariables false
namespace Go.Proofs.YtmcbljjgkmkhcaaGreatDoor
open Go.RowKit Ax
def wLeft (s:ByteArray) (f i:Int):List ByteArray:=(fgo (if f<0 then [] else Lib.pieceU s.data.toList f.toNat i.toNat) ((s.data.toList.drop i.toNat).takeWhile (· != 35))).map mkB
def outWords (x:RSpec.X spWords) (y:RSpec.Y spWords) (g:Gr ByteArray):T (Exit×List Av×RSpec.Y spWords×Gr ByteArray):=
  .need (0≤x.2.2.1∧x.2.2.1≤(ByteArray.size x.1:Int)+1 ∧ -1≤x.2.1∧x.2.1<x.2.2.1∨x.2.1 = -1∧x.2.2.1=0) (.need ((x.2.2.1=(ByteArray.size x.1:Int)+1→x.2.1 = -1)∧ByteArray.size x.1≤1000000∧(gl g:Int)≤x.2.2.1)
    (.ite ((List.drop x.2.2.1.toNat (Array.toList (ByteArray.data x.1))).contains 35) (finG Exit.ret [] y g (wLeft x.1 x.2.1 x.2.2.1)) (finG (Exit.exit 0) [] y g (wLeft x.1 x.2.1 x.2.2.1))))
theorem fgo_blank (cur:List UInt8) (c:UInt8) (r:List UInt8) (h:bl c=true):fgo cur (c::r)=(if cur=[] then [] else [cur])++fgo [] r:=by
  rw[fgo,if_pos h]
  split <;> simp_all
theorem fgo_other (cur:List UInt8) (c:UInt8) (r:List UInt8) (h:bl c=false):fgo cur (c::r)=fgo (cur++[c]) r:=by
  rw[fgo,if_neg (by rw[h];exact Bool.false_ne_true)]
theorem fgo_nil (cur:List UInt8):fgo cur []=(if cur=[] then [] else [cur]):=rfl
def curOf (s:ByteArray) (f i:Int):List UInt8:=if f<0 then [] else Lib.pieceU s.data.toList f.toNat i.toNat
theorem cur_ne (s:ByteArray) {f i:Int} (h0:0≤f) (h1:f<i) (h2:i≤s.size):curOf s f i≠[]:=by
  unfold curOf
  rw[if_neg (by omega)]
  exact Lib.pieceU_ne _ _ _ (by omega) (by rw[←Lib.size_eq];omega)
theorem cur_ext (s:ByteArray) {f i:Int} (h0:0≤f):mkB (curOf s f i)=s.extract f.toNat i.toNat:=by
  unfold curOf
  rw[if_neg (by omega),Lib.extract_eq];rfl
theorem loop_fin (s:ByteArray) (f i:Int) (n:Nat) (g:Gr ByteArray) (Q:Exit×List Av×RSpec.Y spWords×Gr ByteArray→Prop) (hi:0≤i∧i≤(s.size:Int)) (hs:s.size≤1000000) (hn:gnd n g) (hg:(gl g:Int)≤i+1)
    (hy:(List.drop (i+1).toNat s.data.toList).contains 35=true→(finG Exit.ret [] () g (wLeft s (-1) (i+1))).wp Q) (hz:(List.drop (i+1).toNat s.data.toList).contains 35=false→(finG (Exit.exit 0) [] () g (wLeft s (-1) (i+1))).wp Q) :
    (wFin s i n g).wp fun r=>match r with
      | .again x' y' g'=>((ByteArray.size x'.1:Int)+1-x'.2.2.1).toNat<((s.size:Int)+1-i).toNat∧(outWords x' y' g').wp Q
      | .out e avs y' g'=>Q (e,avs,y',g'):=by
  unfold wFin outWords
  simp only[T.wp]
  dsimp only [El,vts,spWords]
  rw[IntWalk.i64_in (i+1) (by omega)]
  exact ⟨hn,by omega,by omega,⟨fun _=>trivial,hs,by omega⟩,hy,hz⟩
theorem take_blank {c:UInt8} {r:List UInt8} (h:c≠35):(c::r).takeWhile (· != 35)=c::r.takeWhile (· != 35):=by
  rw[List.takeWhile_cons,if_pos (by simp[h])]
theorem cont_ne {c:UInt8} {r:List UInt8} (h:c≠35):(c::r).contains 35=r.contains 35:=by
  rw[List.contains_cons,beq_false_of_ne (Ne.symm h),Bool.false_or]
theorem clo_ok (s:ByteArray) (f i:Int) (g:Gr ByteArray) (Q:Exit×List Av×RSpec.Y spWords×Gr ByteArray→Prop) (h0:0≤i∧i≤(s.size:Int)) (h1 : -1≤f) (h2:f<i∨f = -1) (hs:s.size≤1000000) (hg:(gl g:Int)≤i)
    (hc:i=s.size ∨ ∃ c,s.data.toList[i.toNat]?=some c∧(bl c=true∨c=35))
    (hy:(List.drop i.toNat s.data.toList).contains 35=true→(finG Exit.ret [] () g (wLeft s f i)).wp Q) (hz:(List.drop i.toNat s.data.toList).contains 35=false→(finG (Exit.exit 0) [] () g (wLeft s f i)).wp Q) :
    (wClo s f i (gl g) g).wp fun r=>match r with
      | .again x' y' g'=>((ByteArray.size x'.1:Int)+1-x'.2.2.1).toNat<((s.size:Int)+1-i).toNat∧(outWords x' y' g').wp Q
      | .out e avs y' g'=>Q (e,avs,y',g'):=by
  have hsz:s.data.toList.length=s.size:=(Lib.size_eq s).symm
  have tail : ∀ (n:Nat) (g':Gr ByteArray),gnd n g'→(gl g':Int)≤i+1 →
      ((List.drop i.toNat s.data.toList).contains 35=true→(finG Exit.ret [] () g' ((fgo [] (((s.data.toList.drop i.toNat).takeWhile (· != 35)).drop 1)).map mkB)).wp Q) →
      ((List.drop i.toNat s.data.toList).contains 35=false→(finG (Exit.exit 0) [] () g' ((fgo [] (((s.data.toList.drop i.toNat).takeWhile (· != 35)).drop 1)).map mkB)).wp Q) →
      (wTail s i n g').wp fun r=>match r with
      | .again x' y' g'=>((ByteArray.size x'.1:Int)+1-x'.2.2.1).toNat<((s.size:Int)+1-i).toNat∧(outWords x' y' g').wp Q
      | .out e avs y' g'=>Q (e,avs,y',g'):=by
    intro n g' hn hg' hy hz
    unfold wTail
    simp only[T.wp]
    refine ⟨fun hlt=>?_,fun hge=>?_⟩
    · have hlt:=of_decide_eq_true hlt
      obtain ⟨c,hc'⟩:=elem_at (l:=s.data.toList) h0.1 (by omega)
      have hd:=drop_at h0.1 hc'
      rw[hd]at hy hz
      refine ⟨c,h0.1,hc',fun e=>?_,fun e=>?_⟩
      · have e:c=35:=by
          have:(c.toNat:Int)=35:=by simpa using e
          exact byte_of (k:=35) (by omega)
        subst e
        have hy:=hy (by simp)
        rw[List.takeWhile_cons,if_neg (by simp)]at hy
        exact ⟨hn,finG_nil hy⟩
      · have e:c≠35:=fun h=>by
          have:¬ (c.toNat:Int)=35:=by simpa using e
          exact this (by rw[h];rfl)
        rw[take_blank e,cont_ne e,List.drop_one,List.tail_cons]at hy hz
        refine loop_fin s f i n g' Q h0 hs hn hg' ?_ ?_
        · unfold wLeft;rw[if_pos (by omega)];exact hy
        · unfold wLeft;rw[if_pos (by omega)];exact hz
    · have hge:=of_decide_eq_false hge
      rw[drop_end (by omega)]at hy hz
      refine loop_fin s f i n g' Q h0 hs hn hg' ?_ ?_
      · rw[drop_end (by omega)];intro h;simp at h
      · unfold wLeft
        rw[drop_end (by omega),if_pos (by omega)];intro _;exact hz rfl
  have hW:wLeft s f i=(if curOf s f i=[] then [] else [mkB (curOf s f i)])++(fgo [] (((s.data.toList.drop i.toNat).takeWhile (· != 35)).drop 1)).map mkB:=by
    unfold wLeft
    rw[show (if f<0 then [] else Lib.pieceU s.data.toList f.toNat i.toNat)=curOf s f i from rfl]
    rcases hc with hc|⟨c,hc,hb⟩
    · rw[drop_end (by omega)]
      rw[List.takeWhile_nil,fgo_nil]
      split <;> simp[fgo]
    · rw[drop_at h0.1 hc]
      by_cases h35:c=35
      · rw[List.takeWhile_cons,if_neg (by simp[h35]),fgo_nil]
        split <;> simp[fgo]
      · rw[take_blank h35,fgo_blank _ _ _ (by rcases hb with h|h;exact h;exact absurd h h35),List.drop_one,List.tail_cons,List.map_append]
        split <;> simp
  rw[hW]at hy hz
  unfold wClo
  simp only[T.wp]
  refine ⟨fun hf=>?_,fun hf=>?_⟩
  · have hf:0≤f:=of_decide_eq_true hf
    have hne:=cur_ne s hf (by omega) h0.2
    rw[if_neg hne,cur_ext s hf]at hy hz
    refine ⟨⟨hf,by omega,h0.2⟩,appG_wp (by omega) (by simp only[Go.maxLen];omega) fun k=>tail _ _ (gnd_app g _ k) ?_ ?_ ?_⟩
    · have:gl (some (gx g++[s.extract f.toNat i.toNat],k))=gl g+1:=by show List.length _=_;rw[List.length_append,gl_eq];rfl
      rw[this];omega
    · exact fun h=>finG_cons (hy h) k
    · exact fun h=>finG_cons (hz h) k
  · have hf:¬ 0≤f:=of_decide_eq_false hf
    have hcur:curOf s f i=[]:=by unfold curOf;rw[if_pos (by omega)]
    rw[if_pos hcur,List.nil_append]at hy hz
    exact tail _ _ (gnd_gl g) (by omega) hy hz
theorem opn_ok (s:ByteArray) (f i:Int) (g:Gr ByteArray) (c:UInt8) (Q:Exit×List Av×RSpec.Y spWords×Gr ByteArray→Prop) (h0:0≤i∧i<(s.size:Int)) (h1 : -1≤f) (h2:f<i∨f = -1) (hs:s.size≤1000000) (hg:(gl g:Int)≤i)
    (hc:s.data.toList[i.toNat]?=some c) (hb:bl c=false) (h35:c≠35)
    (hy:(List.drop i.toNat s.data.toList).contains 35=true→(finG Exit.ret [] () g (wLeft s f i)).wp Q) (hz:(List.drop i.toNat s.data.toList).contains 35=false→(finG (Exit.exit 0) [] () g (wLeft s f i)).wp Q) :
    (wOpn s f i (gl g) g).wp fun r=>match r with
      | .again x' y' g'=>((ByteArray.size x'.1:Int)+1-x'.2.2.1).toNat<((s.size:Int)+1-i).toNat∧(outWords x' y' g').wp Q
      | .out e avs y' g'=>Q (e,avs,y',g'):=by
  have hsz:s.data.toList.length=s.size:=(Lib.size_eq s).symm
  have hd:=drop_at h0.1 hc
  have e1:(i+1).toNat=i.toNat+1:=by omega
  have key : ∀ f':Int,0≤f'→f'≤i→(curOf s f i++[c]=Lib.pieceU s.data.toList f'.toNat (i+1).toNat)→wLeft s f i=wLeft s f' (i+1):=fun f' hf' hle he=>by
    unfold wLeft
    rw[show (if f<0 then [] else Lib.pieceU s.data.toList f.toNat i.toNat)=curOf s f i from rfl,hd,take_blank h35,fgo_other _ _ _ hb,if_neg (by omega),he]
  have htake:(s.data.toList.drop i.toNat).take 1=[c]:=by rw[hd];rfl
  rw[hd,cont_ne h35]at hy hz
  unfold wOpn outWords
  simp only[T.wp]
  dsimp only [El,vts,spWords]
  rw[IntWalk.i64_in (i+1) (by omega)]
  refine ⟨fun hf=>?_,fun hf=>?_⟩
  · have hf:=of_decide_eq_true hf
    have hk:=key i h0.1 (Int.le_refl _) (by
      unfold curOf Lib.pieceU
      rw[if_pos hf,List.nil_append,e1,Nat.add_sub_cancel_left,htake])
    rw[hk]at hy hz
    exact ⟨gnd_gl g,by omega,by omega,⟨fun h=>by omega,hs,by omega⟩,hy,hz⟩
  · have hf:=of_decide_eq_false hf
    have hk:=key f (by omega) (by omega) (by
      unfold curOf
      rw[if_neg hf,e1,←Lib.pieceU_grow _ _ _ _ (by omega),htake])
    rw[hk]at hy hz
    exact ⟨gnd_gl g,by omega,by omega,⟨fun h=>by omega,hs,by omega⟩,hy,hz⟩
theorem bl_of {c:UInt8}:bl c=decide (c.toNat=32∨c.toNat=9∨c.toNat=13):=by
  unfold bl blank
  rw[decide_eq_decide]
  simp only[List.mem_cons,List.not_mem_nil,or_false]
  omega
theorem round_ok (s:ByteArray) (f i:Int) (g:Gr ByteArray) (Q:Exit×List Av×RSpec.Y spWords×Gr ByteArray→Prop) (h:(outWords (s,f,i,()) () g).wp Q) :
    (wRound s f i g).wp fun r=>match r with
      | .again x' y' g'=>((ByteArray.size x'.1:Int)+1-x'.2.2.1).toNat<((s.size:Int)+1-i).toNat∧(outWords x' y' g').wp Q
      | .out e avs y' g'=>Q (e,avs,y',g'):=by
  have hsz:s.data.toList.length=s.size:=(Lib.size_eq s).symm
  unfold outWords at h
  simp only[T.wp]at h
  dsimp only [El,vts,spWords]at h
  obtain ⟨h1,⟨h2,h3,h4⟩,hy,hz⟩:=h
  unfold wRound
  simp only[T.wp]
  refine ⟨fun hle=>⟨fun he=>?_,fun hne=>?_⟩,fun hgt=>?_⟩
  · have he:i=s.size:=by simpa using he
    exact clo_ok s f i g Q (by omega) (by omega) (by omega) h3 h4 (.inl he) hy hz
  · have hle:=of_decide_eq_true hle
    have hne:¬ i=s.size:=by simpa using hne
    obtain ⟨c,hc⟩:=elem_at (l:=s.data.toList) (show 0≤i by omega) (by omega)
    have clo:(bl c=true∨c=35)→_:=fun hb=>clo_ok s f i g Q (by omega) (by omega) (by omega) h3 h4 (.inr ⟨c,hc,hb⟩) hy hz
    refine ⟨c,by omega,hc,fun e=>clo (.inr ?_),fun e35=>⟨c,by omega,hc,fun e=>clo (.inl ?_),fun e32=>⟨c,by omega,hc,fun e=>clo (.inl ?_),fun e9=>⟨c,by omega,hc,fun e=>clo (.inl ?_),fun e13=>?_⟩⟩⟩⟩
    · have:(c.toNat:Int)=35:=by simpa using e
      exact byte_of (k:=35) (by omega)
    · have:(c.toNat:Int)=32:=by simpa using e
      rw[bl_of];exact decide_eq_true (by omega)
    · have:(c.toNat:Int)=9:=by simpa using e
      rw[bl_of];exact decide_eq_true (by omega)
    · have:(c.toNat:Int)=13:=by simpa using e
      rw[bl_of];exact decide_eq_true (by omega)
    · have q1:¬ (c.toNat:Int)=35:=by simpa using e35
      have q2:¬ (c.toNat:Int)=32:=by simpa using e32
      have q3:¬ (c.toNat:Int)=9:=by simpa using e9
      have q4:¬ (c.toNat:Int)=13:=by simpa using e13
      exact opn_ok s f i g c Q (by omega) (by omega) (by omega) h3 h4 hc (by rw[bl_of];exact decide_eq_false (by omega)) (fun h=>q1 (by rw[h];rfl)) hy hz
  · have hgt:=of_decide_eq_false hgt
    have hf:=h2 (by omega)
    rw[drop_end (by omega)]at hz
    have:=hz rfl
    unfold wLeft at this
    rw[drop_end (by omega),if_pos (by omega)]at this
    exact ⟨gnd_gl g,finG_nil this⟩
theorem rwordsL_ok:LoopOk Tryz.prog 0 (bodyOf Tryz.f39 0) (spWords.run outWords):=
  loopR_ok (E:=L6) (L:=fun _=>none) mixedL 0 (loops_none _ _ _) spWords (Nat.zero_le _) outWords (fun x _ _=>((ByteArray.size x.1:Int)+1-x.2.2.1).toNat) (by
    rintro ⟨s,f,i,⟨⟩⟩ ⟨⟩ g Q h
    match g,h with
    | some (xs,cap),h =>
      rw[tr_rwordsL_eq s f i xs cap]
      exact round_ok s f i (some (xs,cap)) Q h
    | none,h =>
      rw[tr_rwordsL0_eq s f i]
      exact round_ok s f i none Q h)
noncomputable def lpWords:Loops:=oneL 4 (spWords.run outWords)
noncomputable def tr_rwords (x:Els [(false,.str)]):T Av:=
 .need (True) (.need ((0:El (Cd.int .i64))≤(0:Int)∧(0:Int)≤(↑(ByteArray.size (x.1)):Int)+(1:El (Cd.int .i64))∧(-1:El (Cd.int .i64))≤(-1:Int)∧(-1:Int)<(0:Int)∨(-1:Int)=(-1:El (Cd.int .i64))∧(0:Int)=(0:El (Cd.int .i64))) (.need (((0:Int)=(↑(ByteArray.size (x.1)):Int)+(1:El (Cd.int .i64))→(-1:Int)=(-1:El (Cd.int .i64)))∧ByteArray.size (x.1)≤(1000000:Nat)∧(↑(gl (Option.none:Gr ByteArray)):Int)≤(0:Int)) (.ite (List.contains (List.drop (Int.toNat (0:Int)) (Array.toList (ByteArray.data (x.1)))) (35:UInt8))
     (.ite (List.isEmpty (wLeft (x.1) (-1:Int) (0:Int)))
      (.ret (.one (.v (Go.Value.slice Option.none (0:Nat) (0:Nat)))))
      (.up ((0:Nat)) (fun v0 =>
       .need (List.length (wLeft (x.1) (-1:Int) (0:Int))≤List.length (wLeft (x.1) (-1:Int) (0:Int))) (.ret (.one (.ds (Cd.str) (List.take (List.length (wLeft (x.1) (-1:Int) (0:Int))) (wLeft (x.1) (-1:Int) (0:Int)))))))))
     (.ite (List.isEmpty (wLeft (x.1) (-1:Int) (0:Int)))
      (.ret (.one (.v (Go.Value.slice Option.none (0:Nat) (0:Nat)))))
      (.up ((0:Nat)) (fun v0 =>
       .need (List.length (wLeft (x.1) (-1:Int) (0:Int))≤List.length (wLeft (x.1) (-1:Int) (0:Int))) (.ret (.one (.ds (Cd.str) (List.take (List.length (wLeft (x.1) (-1:Int) (0:Int))) (wLeft (x.1) (-1:Int) (0:Int))))))))))))
theorem tr_rwords_eq (x:Els [(false,.str)]):fnP L6 lpWords Tryz.f39 (encs [(false,.str)] x)=tr_rwords x:=by kernel_rfl
theorem wLeft_all (s:ByteArray):wLeft s (-1) 0=wordsB s.data.toList:=rfl
theorem gl_none:((gl (none:Gr ByteArray):Nat):Int)≤0:=Int.le_refl 0
noncomputable def con_rwords:Con Tryz.prog:=⟨39,[],_,cf_rwords,val_con_wL (E:=L6) (L:=lpWords) mixedL Tryz.func39 (one_loop rwordsL_ok (by kernel_rfl)) [(false,.str)] (fun x=>ByteArray.size x.1≤1000000) (fun x=>.one (.ds .str (wordsB (Array.toList (ByteArray.data x.1))))) fun x hx=>by
  rw[tr_rwords_eq]
  obtain ⟨s,u⟩:=x
  revert s
  intro (s:ByteArray) (hx:s.size≤1000000)
  unfold tr_rwords
  simp only[T.wp,wLeft_all]
  have hin : ∀ w R σ v,AvIs w R σ (.one (.ds .str (List.take (List.length (wordsB s.data.toList)) (wordsB s.data.toList)))) v→AvIs w R σ (.one (.ds .str (wordsB s.data.toList))) v:=fun w R σ v hv=>by
    rwa [List.take_length]at hv
  have hnil:List.isEmpty (wordsB s.data.toList)=true → ∀ w R σ v,AvIs w R σ (.one (.v (.slice none 0 0))) v→AvIs w R σ (.one (.ds .str (wordsB s.data.toList))) v:=fun h w R σ v hv=>by
    rw[List.isEmpty_iff.1 h];exact nil_av1 hv
  refine ⟨trivial,.inr ⟨trivial,trivial⟩,⟨fun _=>trivial,hx,gl_none⟩,fun _=>⟨fun h=>hnil h,fun _ k _=>⟨Nat.le_refl _,hin⟩⟩,fun _=>⟨fun h=>hnil h,fun _ k _=>⟨Nat.le_refl _,hin⟩⟩⟩⟩
noncomputable def L7:Env Tryz.prog:=L6.add [con_rwords]
abbrev spRL:RSpec:=⟨56,[(0,false,.str),(5,false,.int .i64),(6,false,.int .i64),(7,false,.int .i64)],[],[],fun e=>match e with|.exit _=>[6]|_=>[],4,47,cL,false,fun _=>4⟩
abbrev GL:=Gr (Int×List ByteArray)
def rAgain (s:ByteArray) (f n i:Int) (m:Nat) (g:GL):T (RRd spRL):=.need (gnd m g) (.ret (.again (s,f,n,i,()) () g))
def rBody (s:ByteArray) (f n i:Int) (g:GL):T (RRd spRL):=.need ((0:Int)≤f∧f≤i∧i≤(ByteArray.size s:Int)) (.lt (ByteArray.extract s (Int.toNat f) (Int.toNat i)) fun v =>
  .need (ByteArray.size v≤(1000000:Nat)) (.ite (decide ((List.length (wordsB (Array.toList (ByteArray.data v))):Int)>(0:Int)))
    (appG 31 g (IntKind.wrap .i64 (n+(1:Int)),wordsB (Array.toList (ByteArray.data v))) fun m g=>rAgain s (IntKind.wrap .i64 (i+(1:Int))) (IntKind.wrap .i64 (n+(1:Int))) (IntKind.wrap .i64 (i+(1:Int))) m g)
    (rAgain s (IntKind.wrap .i64 (i+(1:Int))) (IntKind.wrap .i64 (n+(1:Int))) (IntKind.wrap .i64 (i+(1:Int))) (gl g) g)))
def rCnt (s:ByteArray) (f n i:Int) (g:GL):T (RRd spRL):=.ite (i==(ByteArray.size s:Int)) (.ite (f==i) (rAgain s f n (IntKind.wrap .i64 (i+(1:Int))) (gl g) g) (rBody s f n i g)) (rBody s f n i g)
def rRound (s:ByteArray) (f n i:Int) (g:GL):T (RRd spRL):=.ite (decide (i≤(ByteArray.size s:Int)))
  (.ite (decide (i<(ByteArray.size s:Int))) (.get (Array.toList (ByteArray.data s)) i fun c=>.ite ((UInt8.toNat c:Int) != (10:Int)) (rAgain s f n (IntKind.wrap .i64 (i+(1:Int))) (gl g) g) (rCnt s f n i g)) (rCnt s f n i g))
  (.need (gnd (gl g) g) (.ret (.out (Exit.exit 0) [.one (.v (.int .i64 n))] () g)))
theorem tr_rlinesL_eq (s:ByteArray) (f n i:Int) (xs:List (Int×List ByteArray)) (cap:Nat):RSpec.round spRL L7 (fun _=>none) (bodyOf Tryz.f12 0) (s,f,n,i,()) () (some (xs,cap))=rRound s f n i (some (xs,cap)):=by kernel_rfl
theorem tr_rlinesL0_eq (s:ByteArray) (f n i:Int):RSpec.round spRL L7 (fun _=>none) (bodyOf Tryz.f12 0) (s,f,n,i,()) () none=rRound s f n i none:=by kernel_rfl
def lcnt:List UInt8→List UInt8→Nat
  | cur,[]=>if cur=[] then 0 else 1
  | cur,c::r=>if c=10 then 1+lcnt [] r else lcnt (cur++[c]) r
def rcur (s:ByteArray) (f i:Int):List UInt8:=Lib.pieceU s.data.toList f.toNat i.toNat
def rLeft (s:ByteArray) (f n i:Int):List (Int×List ByteArray):=if i≤(s.size:Int) then lf (rcur s f i) (s.data.toList.drop i.toNat) n else []
def rNum (s:ByteArray) (f n i:Int):Int:=if i≤(s.size:Int) then n+lcnt (rcur s f i) (s.data.toList.drop i.toNat) else n
def outRL (x:RSpec.X spRL) (y:RSpec.Y spRL) (g:GL):T (Exit×List Av×RSpec.Y spRL×GL):=
  .need (0≤x.2.2.2.1∧x.2.2.2.1≤(ByteArray.size x.1:Int)+1∧0≤x.2.1∧x.2.1≤x.2.2.2.1∧0≤x.2.2.1∧x.2.2.1≤x.2.2.2.1∧(List.length (gx g):Int)≤x.2.2.2.1∧ByteArray.size x.1≤900000)
    (finG (Exit.exit 0) [.one (.v (.int .i64 (rNum x.1 x.2.1 x.2.2.1 x.2.2.2.1)))] y g (rLeft x.1 x.2.1 x.2.2.1 x.2.2.2.1))
theorem rl_again (s:ByteArray) (f n i f' n':Int) (m:Nat) (g:GL) (Q:Exit×List Av×RSpec.Y spRL×GL→Prop) (hi:0≤i∧i≤(s.size:Int)) (hs:s.size≤900000) (hf:0≤f'∧f'≤i+1) (hn:0≤n'∧n'≤i+1) (hm:gnd m g) (hg:((gx g).length:Int)≤i+1)
    (h:(finG (Exit.exit 0) [.one (.v (.int .i64 (rNum s f' n' (i+1))))] () g (rLeft s f' n' (i+1))).wp Q) :
    (rAgain s f' n' (i+1) m g).wp fun r=>match r with
      | .again x' y' g'=>((ByteArray.size x'.1:Int)+1-x'.2.2.2.1).toNat<((s.size:Int)+1-i).toNat∧(outRL x' y' g').wp Q
      | .out e avs y' g'=>Q (e,avs,y',g'):=by
  unfold rAgain outRL
  simp only[T.wp]
  dsimp only [El,vts,spRL]
  exact ⟨hm,by omega,⟨by omega,by omega,hf.1,hf.2,hn.1,hn.2,hg,hs⟩,h⟩
theorem rl_body (s:ByteArray) (f n i:Int) (g:GL) (Q:Exit×List Av×RSpec.Y spRL×GL→Prop) (hi:0≤i∧i≤(s.size:Int)) (hs:s.size≤900000) (hf:0≤f∧f≤i) (hn:0≤n∧n≤i) (hg:((gx g).length:Int)≤i)
    (hc:i=s.size∧f<i∨s.data.toList[i.toNat]?=some 10)
    (h:(finG (Exit.exit 0) [.one (.v (.int .i64 (rNum s f n i)))] () g (rLeft s f n i)).wp Q) :
    (rBody s f n i g).wp fun r=>match r with
      | .again x' y' g'=>((ByteArray.size x'.1:Int)+1-x'.2.2.2.1).toNat<((s.size:Int)+1-i).toNat∧(outRL x' y' g').wp Q
      | .out e avs y' g'=>Q (e,avs,y',g'):=by
  have hsz:s.data.toList.length=s.size:=(Lib.size_eq s).symm
  have hcur:(s.extract f.toNat i.toNat).data.toList=rcur s f i:=by unfold rcur Lib.pieceU;rw[Lib.extract_data]
  have hL:rLeft s f n i=one1 (rcur s f i) n++rLeft s (i+1) (n+1) (i+1):=by
    unfold rLeft
    rw[if_pos hi.2]
    rcases hc with ⟨hc,_⟩|hc
    · rw[drop_end (by omega),if_neg (by omega),lf,List.append_nil]
    · have hlt:=(List.getElem?_eq_some_iff.1 hc).1
      rw[drop_at hi.1 hc,lf,if_pos rfl,if_pos (by omega)]
      congr 2
      unfold rcur Lib.pieceU
      rw[Nat.sub_self,List.take_zero]
  have hN:rNum s f n i=rNum s (i+1) (n+1) (i+1):=by
    unfold rNum
    rw[if_pos hi.2]
    rcases hc with ⟨hc,hfi⟩|hc
    · rw[drop_end (by omega),if_neg (by omega),lcnt,if_neg]
      · rfl
      · exact Lib.pieceU_ne _ _ _ (by omega) (by omega)
    · have hlt:=(List.getElem?_eq_some_iff.1 hc).1
      rw[drop_at hi.1 hc,lcnt,if_pos rfl,if_pos (by omega)]
      have:rcur s (i+1) (i+1)=[]:=by
        unfold rcur Lib.pieceU
        rw[Nat.sub_self,List.take_zero]
      rw[this]
      omega
  rw[hL,hN]at h
  have hle:(s.extract f.toNat i.toNat).size≤1000000:=by
    rw[Lib.size_eq,hcur]
    unfold rcur Lib.pieceU
    rw[List.length_take,List.length_drop]
    omega
  unfold rBody
  simp only[T.wp]
  rw[hcur,IntWalk.i64_in (i+1) (by omega),IntWalk.i64_in (n+1) (by omega)]
  refine ⟨⟨hf.1,hf.2,hi.2⟩,hle,fun hp=>?_,fun hp=>?_⟩
  · have hp:(wordsB (rcur s f i)).length>0:=Int.ofNat_lt.1 (of_decide_eq_true hp)
    unfold one1 at h
    rw[if_pos hp,List.singleton_append]at h
    rw[←gl_eq]at hg
    refine appG_wp (by omega) (by simp only[Go.maxLen];omega) fun k=>rl_again s f n i _ _ _ _ Q hi hs (by omega) (by omega) (gnd_app g _ k) ?_ (finG_cons h k)
    show (((gx g++[_]).length:Nat):Int)≤_
    rw[List.length_append,←gl_eq]
    simp only[List.length_cons,List.length_nil]
    omega
  · have hp:¬ (wordsB (rcur s f i)).length>0:=fun h'=>(of_decide_eq_false hp) (Int.ofNat_lt.2 h')
    unfold one1 at h
    rw[if_neg hp,List.nil_append]at h
    exact rl_again s f n i _ _ _ _ Q hi hs (by omega) (by omega) (gnd_gl g) (by omega) h
theorem rl_round (s:ByteArray) (f n i:Int) (g:GL) (Q:Exit×List Av×RSpec.Y spRL×GL→Prop) (h:(outRL (s,f,n,i,()) () g).wp Q) :
    (rRound s f n i g).wp fun r=>match r with
      | .again x' y' g'=>((ByteArray.size x'.1:Int)+1-x'.2.2.2.1).toNat<((s.size:Int)+1-i).toNat∧(outRL x' y' g').wp Q
      | .out e avs y' g'=>Q (e,avs,y',g'):=by
  have hsz:s.data.toList.length=s.size:=(Lib.size_eq s).symm
  unfold outRL at h
  simp only[T.wp]at h
  dsimp only [El,vts,spRL]at h
  obtain ⟨⟨h1,h2,h3,h4,h5,h6,h7,h8⟩,h⟩:=h
  unfold rRound
  simp only[T.wp]
  refine ⟨fun hle=>?_,fun hgt=>?_⟩
  · have hle:=of_decide_eq_true hle
    have e1:(i+1).toNat=i.toNat+1:=by omega
    refine ⟨fun hlt=>?_,fun hge=>?_⟩
    · have hlt:=of_decide_eq_true hlt
      obtain ⟨c,hc⟩:=elem_at (l:=s.data.toList) h1 (by omega)
      have hd:=drop_at h1 hc
      refine ⟨c,h1,hc,fun hne=>?_,fun heq=>?_⟩
      · have hne:c≠10:=fun e=>by rw[e]at hne;exact absurd hne (by decide)
        rw[IntWalk.i64_in (i+1) (by omega)]
        refine rl_again s f n i f n _ g Q ⟨h1,hle⟩ h8 (by omega) (by omega) (gnd_gl g) (by omega) ?_
        have hcur:rcur s f i++[c]=rcur s f (i+1):=by
          unfold rcur
          rw[e1,←Lib.pieceU_grow _ _ _ _ (by omega),hd];rfl
        have e2:rLeft s f n i=rLeft s f n (i+1):=by
          unfold rLeft
          rw[if_pos hle,if_pos (by omega),hd,lf,if_neg hne,hcur]
        have e3:rNum s f n i=rNum s f n (i+1):=by
          unfold rNum
          rw[if_pos hle,if_pos (by omega),hd,lcnt,if_neg hne,hcur]
        rwa [←e2,←e3]
      · have heq:c=10:=by
          have:(c.toNat:Int)=10:=by simpa using heq
          exact byte_of (k:=10) (by omega)
        subst heq
        unfold rCnt
        simp only[T.wp]
        refine ⟨fun he=>?_,fun _=>rl_body s f n i g Q ⟨h1,hle⟩ h8 ⟨h3,h4⟩ ⟨h5,h6⟩ h7 (.inr hc) h⟩
        have he:i=s.size:=by simpa using he
        omega
    · have hge:=of_decide_eq_false hge
      have he:i=s.size:=by omega
      unfold rCnt
      simp only[T.wp]
      refine ⟨fun _=>⟨fun hf=>?_,fun hf=>?_⟩,fun hne=>absurd he (by simpa using hne)⟩
      · have hf:f=i:=by simpa using hf
        rw[IntWalk.i64_in (i+1) (by omega)]
        refine rl_again s f n i f n _ g Q ⟨h1,hle⟩ h8 (by omega) (by omega) (gnd_gl g) (by omega) ?_
        have hcur:rcur s f i=[]:=by
          unfold rcur Lib.pieceU
          rw[hf,Nat.sub_self,List.take_zero]
        have e2:rLeft s f n i=rLeft s f n (i+1):=by
          unfold rLeft
          rw[if_pos hle,if_neg (by omega),drop_end (by omega),hcur];rfl
        have e3:rNum s f n i=rNum s f n (i+1):=by
          unfold rNum
          rw[if_pos hle,if_neg (by omega),drop_end (by omega),hcur,lcnt,if_pos rfl];omega
        rwa [←e2,←e3]
      · have hf:¬ f=i:=by simpa using hf
        exact rl_body s f n i g Q ⟨h1,hle⟩ h8 ⟨h3,h4⟩ ⟨h5,h6⟩ h7 (.inl ⟨he,by omega⟩) h
  · have hgt:=of_decide_eq_false hgt
    unfold rLeft rNum at h
    rw[if_neg hgt,if_neg hgt]at h
    exact ⟨gnd_gl g,finG_nil h⟩
theorem rlinesL_ok:LoopOk Tryz.prog 0 (bodyOf Tryz.f12 0) (spRL.run outRL):=
  loopR_ok (E:=L7) (L:=fun _=>none) mixedL 0 (loops_none _ _ _) spRL (Nat.zero_le _) outRL (fun x _ _=>((ByteArray.size x.1:Int)+1-x.2.2.2.1).toNat) (by
    rintro ⟨s,f,n,i,⟨⟩⟩ ⟨⟩ g Q h
    match g,h with
    | some (xs,cap),h =>
      rw[tr_rlinesL_eq s f n i xs cap]
      exact rl_round s f n i (some (xs,cap)) Q h
    | none,h =>
      rw[tr_rlinesL0_eq s f n i]
      exact rl_round s f n i none Q h)
noncomputable def lpRL:Loops:=oneL 4 (spRL.run outRL)
noncomputable def tr_rlines (x:Els [(false,.str)]):T Av:=
 .need (True) (.need ((0:El (Cd.int .i64))≤(0:Int)∧(0:Int)≤(↑(ByteArray.size (x.1)):Int)+(1:El (Cd.int .i64))∧(0:El (Cd.int .i64))≤(0:Int)∧(0:Int)≤(0:Int)∧(0:El (Cd.int .i64))≤(0:Int)∧(0:Int)≤(0:Int)∧(↑(List.length (gx (Option.none:GL))):Int)≤(0:Int)∧ByteArray.size (x.1)≤(900000:Nat)) (.ite (List.isEmpty (rLeft (x.1) (0:Int) (0:Int) (0:Int)))
    (.ret (.tup [(.one (.v (Go.Value.slice Option.none (0:Nat) (0:Nat)))),(.one (.v (.int .i64 (rNum (x.1) (0:Int) (0:Int) (0:Int)))))]))
    (.up ((0:Nat)) (fun v0 =>
     .need (List.length (rLeft (x.1) (0:Int) (0:Int) (0:Int))≤List.length (rLeft (x.1) (0:Int) (0:Int) (0:Int))) (.ret (.tup [(.one (.ds (Cd.pair (Cd.int .i64) (Cd.sl Cd.str)) (List.take (List.length (rLeft (x.1) (0:Int) (0:Int) (0:Int))) (rLeft (x.1) (0:Int) (0:Int) (0:Int))))),(.one (.v (.int .i64 (rNum (x.1) (0:Int) (0:Int) (0:Int)))))]))))))
theorem tr_rlines_eq (x:Els [(false,.str)]):fnP L7 lpRL Tryz.f12 (encs [(false,.str)] x)=tr_rlines x:=by kernel_rfl
theorem rLeft_all (s:ByteArray):rLeft s 0 0 0=linesOf s:=by
  unfold rLeft
  rw[if_pos (by omega),linesOf_lf];rfl
def linesNum (s:ByteArray):Int:=lcnt [] s.data.toList
theorem rNum_all (s:ByteArray):rNum s 0 0 0=linesNum s:=by
  unfold rNum
  rw[if_pos (by omega)]
  show 0+(lcnt [] s.data.toList:Int)=_
  rw[Int.zero_add];rfl
theorem gx_none:((List.length (gx (none:GL)):Nat):Int)≤0:=Int.le_refl 0
theorem nil_av2L {w:World} {R:Nat→Prop} {σ:List Nat} {c:Cd} {a:Av} {v:Value} (h:AvIs w R σ (.tup [.one (.v (.slice none 0 0)),a]) v):AvIs w R σ (.tup [.one (.ds c []),a]) v:=by
  cases h with
  | tup us hl hi =>
    refine .tup us hl fun i x u hx hu=>?_
    match i,hx with
    | 0,hx =>
      have hx:Av.one (.ds c [])=x:=by simpa using hx
      subst hx
      exact nil_av1 (hi 0 _ u rfl hu)
    | 1,hx=>exact hi 1 x u hx hu
noncomputable def con_rlines:Con Tryz.prog:=⟨12,[],_,cf_rlines,val_con_wL (E:=L7) (L:=lpRL) mixedL Tryz.func12 (one_loop rlinesL_ok (by kernel_rfl)) [(false,.str)] (fun x=>ByteArray.size x.1≤900000) (fun x=>.tup [.one (.ds cL (linesOf x.1)),.one (.v (.int .i64 (linesNum x.1)))]) fun x hx=>by
  rw[tr_rlines_eq]
  obtain ⟨s,u⟩:=x
  revert s
  intro (s:ByteArray) (hx:s.size≤900000)
  unfold tr_rlines
  simp only[T.wp,rLeft_all,rNum_all]
  refine ⟨trivial,⟨Int.le_refl 0,by omega,Int.le_refl 0,by decide,Int.le_refl 0,by decide,gx_none,hx⟩,fun h w R σ v hv=>?_,fun _ k _=>⟨Nat.le_refl _,fun w R σ v hv=>?_⟩⟩
  · rw[List.isEmpty_iff.1 h];exact nil_av2L hv
  · rwa [List.take_length]at hv⟩
theorem bytes_beq (a b:ByteArray):(a.toList==b.toList)=decide (a=b):=by
  rw[Bool.eq_iff_iff,beq_iff_eq,decide_eq_true_iff,Lib.toList_data,Lib.toList_data]
  refine ⟨fun h=>?_,fun h=>by rw[h]⟩
  rw[←Lib.mk_data a,←Lib.mk_data b,h]
theorem numB_of (s:ByteArray) (b:Bool) (h:numB s.data.toList=b):lintB s=b:=(lint_num s).1.trans h
theorem k12:lintB ⟨#[45,49,50]⟩=true:=numB_of _ _ (by kernel_rfl)
theorem v12:atoiV ⟨#[45,49,50]⟩ = -12:=((lint_num _).2 k12).trans (by kernel_rfl)
theorem nd_le : ∀ (k u:Nat),u<10^(k+1)→Lib.nDigits u≤k+1
  | 0,u,h=>by rw[Lib.nDigits_small (by simpa using h)];exact Nat.le_refl _
  | k+1,u,h=>by
    by_cases h10:u<10
    · rw[Lib.nDigits_small h10];omega
    · rw[Nat.pow_succ]at h
      have:=nd_le k (u/10) (by omega)
      rw[Lib.nDigits_big h10];omega
end Go.Proofs.YtmcbljjgkmkhcaaGreatDoor
namespace Ax
open Go Go.RowKit
section
variable {P:Program} {E:Env P} {L:Loops} {w:World} {φ φ':List Nat}
end
def lin:T Av→Option (Prop×Av)
  | .ret a=>some (True,a)
  | .need p t=>match lin t with
    | some (q,a)=>some (p∧q,a)
    | none=>none
  | .lt x k=>lin (k x)
  | _=>none
theorem lin_wp {Q:Av→Prop} : ∀ (t:T Av) {p:Prop} {a:Av},lin t=some (p,a)→p→Q a→t.wp Q
  | .ret b,p,a,h,_,hQ=>by cases h;exact hQ
  | .need q t,p,a,h,hp,hQ=>by
    unfold lin at h
    split at h
    · rename_i q' a' e
      cases h
      exact ⟨hp.1,lin_wp t e hp.2 hQ⟩
    · cases h
  | .lt x k,p,a,h,hp,hQ=>lin_wp (k x) h hp hQ
  | .ite _ _ _,_,_,h,_,_=>by cases h
  | .and _ _,_,_,h,_,_=>by cases h
  | .get _ _ _,_,_,h,_,_=>by cases h
  | .up _ _,_,_,h,_,_=>by cases h
  | .fail,_,_,h,_,_=>by cases h
structure PCon {P:Program} (con:List (Con P)):Type 1 where
  f:FuncId
  ts:List (Bool×Cd)
  sp:Els ts→T Av
  at_ : ∃ c,con.find? (fun c=>c.f==f)=some c∧c.pos=[]∧c.run=pureRun' ts sp
section
variable {P:Program} {con:List (Con P)}
def callP (PC:List (PCon con)) (fr:List Av) (o:Oper):Option (Prop×Av):=
  match o.guard,o.op with
  | none,.call c=>match calF fr c.callee with
    | some f=>match PC.find? fun c=>c.f==f with
      | some p=>match decs p.ts (c.args.toList.map (operand fr)) with
        | some x=>lin (p.sp x)
        | none=>none
      | none=>none
    | none=>none
  | _,_=>none
theorem closeI_nil (m:Mem) : ∀ k,closeI m k []=[]
  | 0=>rfl
  | k+1=>by rw[closeI];exact closeI_nil m k
theorem call_aE {E:Env P} {fr:List Av} {m:Mem} {o:Oper} {c:Call} {f:FuncId} (hop:o.op=.call c) (h:calF fr c.callee=some f):aE E fr m o=optT (E.con.find? fun c=>c.f==f) fun k=>(k.run (c.args.toList.map (operand fr)) m).bind fun (av,m')=>.ret ⟨av,m',wrOf k.pos (c.args.toList.map (operand fr)) m⟩:=by
  obtain ⟨callee,ars,ts⟩:=c
  match callee,h with
  | .value (.func g),h =>
    have:g=f:=Option.some.inj h
    subst this
    unfold aE
    rw[hop]
  | .value (.tmp t),h =>
    unfold aE
    rw[hop]
    simp only[]
    rw[h]
theorem callP_wp {PC:List (PCon con)} {E:Env P} (hE:E.con=con) {fr:List Av} {m:Mem} {o:Oper} {p:Prop} {av:Av} {K:Ef→Prop} (h:callP PC fr o=some (p,av)) (hp:p) (hK:K ⟨av,m,[]⟩):o.guard=none∧(aE E fr m o).wp K:=by
  unfold callP at h
  split at h
  · rename_i cl hg hop
    refine ⟨hg,?_⟩
    split at h
    · rename_i f hcf
      split at h
      · rename_i c hc
        split at h
        · rename_i x hx
          obtain ⟨c0,h1,h2,h3⟩:=c.at_
          have hf:c.f=f:=by simpa using List.find?_some hc
          rw[call_aE hop hcf,hE,←hf,h1]
          show ((c0.run _ m).bind _).wp K
          rw[h3,T.wp_bind]
          unfold pureRun'
          rw[hx]
          simp only[T.wp_bind]
          refine lin_wp _ h hp ?_
          show K ⟨av,m,wrOf c0.pos _ m⟩
          rw[h2]
          show K ⟨av,m,closeI m 3 []⟩
          rw[closeI_nil]
          exact hK
        · cases h
      · cases h
    · cases h
  · cases h
def bsl (E:Env P) (t:TypeId) (len:Nat) (ps:List (Nat×Av)):Option (Prop×Av):=match P.underlying t with
  | some (.slice e)=>match E.cod.find? fun c=>c.ty==e with
    | some C=>match decodes C.c ps 0 with
      | some xs=>if xs.length=len∧len*csz C.c≤16777216 then some (True,.one (.ds C.c xs)) else none
      | none=>none
    | none=>none
  | _=>none
def valP (PC:List (PCon con)) (E:Env P) (m:Mem) (fr:List Av) (o:Oper):Option (Prop×Av):=
  match o.op with
  | .load t x=>match o.guard with
    | none=>lin (aLoad P (fun _=>true) m t (operand fr x))
    | some _=>none
  | .buildSlice t len ps=>match o.guard with
    | none=>bsl E t len (ps.toList.map fun p=>(p.1,operand fr p.2))
    | some _=>none
  | _=>callP PC fr o
theorem valP_wp {PC:List (PCon con)} {E:Env P} (hE:E.con=con) {fr:List Av} {m:Mem} {o:Oper} {p:Prop} {av:Av} {K:Ef→Prop} (h:valP PC E m fr o=some (p,av)) (hp:p) (hK:K ⟨av,m,[]⟩):o.guard=none∧(aE E fr m o).wp K:=by
  unfold valP at h
  split at h
  · rename_i t x hop
    split at h
    · rename_i hg
      refine ⟨hg,?_⟩
      unfold aE
      simp only[hop]
      rw[T.wp_bind]
      unfold aS
      simp only[hop]
      exact lin_wp _ h hp hK
    · cases h
  · rename_i t len ps hop
    split at h
    · rename_i hg
      refine ⟨hg,?_⟩
      unfold aE
      simp only[hop]
      unfold bsl at h
      split at h
      · rename_i e hu
        split at h
        · rename_i C hC
          split at h
          · rename_i xs hx
            split at h
            · rename_i hc
              cases h
              simp only[hu,hC,hx]
              simp only[optT,optN,hu,hC,hx]
              rw[if_pos hc]
              exact hK
            · cases h
          · cases h
        · cases h
      · cases h
    · cases h
  · exact callP_wp hE h hp hK
def isT (d:Tmp):Operand→Bool
  | .tmp t=>decide (t=d)
  | _=>false
def readsB (o:Oper) (d:Tmp):Bool:=match o.op with
  | .call c=>c.args.toList.any (isT d)||(match c.callee with
    | .value x=>isT d x
    | _=>false)
  | .load _ x=>isT d x
  | .buildSlice _ _ ps=>ps.toList.any fun p=>isT d p.2
  | _=>true
theorem getD_set {fr:List Av} {d t:Tmp} {av:Av} (h:¬ t=d):(fr.set d av).getD t .any=fr.getD t .any:=by
  rw[List.getD_eq_getElem?_getD,List.getD_eq_getElem?_getD,List.getElem?_set,if_neg (fun e=>h e.symm)]
theorem operand_set {fr:List Av} {d:Tmp} {av:Av} {x:Operand} (h:isT d x=false):operand (fr.set d av) x=operand fr x:=by
  cases x with
  | tmp t=>exact getD_set (by simpa [isT] using h)
  | const v=>cases v <;> rfl
  | global g=>rfl
  | func g=>rfl
theorem callP_set {PC:List (PCon con)} {fr:List Av} {o:Oper} {d:Tmp} {av:Av} (h:readsB o d=false):callP PC (fr.set d av) o=callP PC fr o:=by
  unfold callP
  split
  · rename_i c hg hop
    unfold readsB at h
    rw[hop]at h
    simp only[Bool.or_eq_false_iff]at h
    obtain ⟨h,h2⟩:=h
    have e:c.args.toList.map (operand (fr.set d av))=c.args.toList.map (operand fr):=by
      refine List.map_congr_left fun x hx=>operand_set ?_
      have:=List.any_eq_false.1 h x hx
      simpa using this
    have e2:calF (fr.set d av) c.callee=calF fr c.callee:=by
      cases hc:c.callee with
      | value x =>
        rw[hc]at h2
        cases x with
        | tmp t =>
          unfold calF
          simp only[]
          rw[getD_set (by simpa [isT] using h2)]
        | _=>rfl
      | _=>rfl
    rw[e,e2]
  · rfl
theorem valP_set {PC:List (PCon con)} {E:Env P} {m:Mem} {fr:List Av} {o:Oper} {d:Tmp} {av:Av} (h:readsB o d=false):valP PC E m (fr.set d av) o=valP PC E m fr o:=by
  unfold valP
  split
  · rename_i t x hop
    unfold readsB at h
    rw[hop]at h
    rw[operand_set h]
  · rename_i t len ps hop
    unfold readsB at h
    rw[hop]at h
    have e:ps.toList.map (fun p=>(p.1,operand (fr.set d av) p.2))=ps.toList.map (fun p=>(p.1,operand fr p.2)):=by
      refine List.map_congr_left fun x hx=>?_
      have:=List.any_eq_false.1 h x hx
      rw[operand_set (by simpa using this)]
    rw[e]
  · exact callP_set h
def setAll (l:Array Bool):List Nat→Array Bool
  | []=>l
  | i::r=>setAll (l.setIfInBounds i true) r
def putAll (fr:List Av):List (Tmp×Av)→List Av
  | []=>fr
  | (d,av)::r=>putAll (fr.set d av) r
theorem setAll_at : ∀ (xs:List Nat) (l:Array Bool) (k:Nat),(setAll l xs)[k]?=if k∈xs∧k<l.size then some true else l[k]?
  | [],l,k=>by simp[setAll]
  | i::r,l,k=>by
    rw[setAll,setAll_at r,Array.size_setIfInBounds]
    by_cases hk:k<l.size
    · by_cases h1:k∈r
      · rw[if_pos ⟨h1,hk⟩,if_pos ⟨List.mem_cons_of_mem _ h1,hk⟩]
      · rw[if_neg (fun h=>h1 h.1)]
        by_cases h2:k=i
        · subst h2
          rw[if_pos ⟨by simp,hk⟩]
          simp[hk]
        · rw[if_neg (fun h=>by rcases List.mem_cons.1 h.1 with h|h;exact h2 h;exact h1 h),Array.getElem?_setIfInBounds_ne (Ne.symm h2)]
    · rw[if_neg (fun h=>hk h.2),if_neg (fun h=>hk h.2)]
      rw[Array.getElem?_eq_none (by simpa using hk),Array.getElem?_eq_none (by simpa using hk)]
theorem setAll_swap {l:Array Bool} {i:Nat} {xs ys:List Nat} (h : ∀ k,k∈ys↔k=i∨k∈xs):setAll (l.setIfInBounds i true) xs=setAll l ys:=by
  refine Array.ext_getElem? fun k=>?_
  rw[show setAll (l.setIfInBounds i true) xs=setAll l (i::xs) from rfl,setAll_at,setAll_at]
  have:(k∈i::xs)↔k∈ys:=by rw[h k,List.mem_cons]
  simp only[this]
theorem putAll_at : ∀ (l1 l2:List (Tmp×Av)) (fr:List Av) (d:Tmp) (av:Av),(∀ p∈l1,p.1≠d)→putAll fr (l1++(d,av)::l2)=putAll (fr.set d av) (l1++l2)
  | [],l2,fr,d,av,_=>rfl
  | (e,bv)::l1,l2,fr,d,av,h=>by
    have h1:=h (e,bv) (by simp)
    show putAll (fr.set e bv) (l1++(d,av)::l2)=putAll ((fr.set d av).set e bv) (l1++l2)
    rw[putAll_at l1 l2 _ d av fun p hp=>h p (by simp[hp]),List.set_comm _ _ (by simpa using h1)]
theorem branch_all {α:Type} {f:Nat→T α} {Q:α→Prop} : ∀ {rs:List Nat},rs≠[]→(∀ i∈rs,(f i).wp Q)→(branch f rs).wp Q
  | [],h,_=>absurd rfl h
  | [i],_,h=>h i (by simp)
  | i::j::r,_,h=>⟨h i (by simp),branch_all (rs:=j::r) (by simp) fun k hk=>h k (by simp[hk])⟩
structure Val (PC:List (PCon con)) (E:Env P) (m:Mem) (ops:Array Oper) (fr:List Av) (i:Nat) (d:Tmp) (p:Prop) (av:Av) (o:Oper):Prop where
  at_:ops[i]?=some o
  dst:o.dst=some d
  val:valP PC E m fr o=some (p,av)
def bVals (PC:List (PCon con)) (E:Env P) (m:Mem) (ops:Array Oper) (fr:List Av):List Nat→Option (Prop×List (Tmp×Av))
  | []=>some (True,[])
  | i::r=>match ops[i]? with
    | some o=>match o.dst,valP PC E m fr o,bVals PC E m ops fr r with
      | some d,some (p,av),some (q,l)=>some (p∧q,(d,av)::l)
      | _,_,_=>none
    | none=>none
def dstOf (ops:Array Oper) (i:Nat):Tmp:=((ops[i]?).bind (·.dst)).getD 0
def bOk (ops:Array Oper) (sd:Nat→Bool) (ps:List Nat) (listed:Array Bool) (B:List Nat):Bool:=
  nodB B&&nodB (B.map (dstOf ops))&&B.all fun i => !sd i&&(B.all fun j=>match ops[j]? with
    | some o => !readsB o (dstOf ops i)
    | none=>false)&&(later ops ps (setAll listed (B.erase i))).all fun j=>decide (j=i)
structure Bun (PC:List (PCon con)) (E:Env P) (m:Mem) (ops:Array Oper) (sd:Nat→Bool) (ps:List Nat) (listed:Array Bool) (fr:List Av) (B:List Nat) (vs:List (Tmp×Av)):Prop where
  len:vs.length=B.length
  nd:B.Nodup
  ndd:(vs.map (·.1)).Nodup
  rdy : ∀ i∈B,i∈Region.ready .any ops listed∧i ∉ ps∧sd i=false
  val : ∀ (k i:Nat) (v:Tmp×Av),B[k]?=some i→vs[k]?=some v → ∃ o p,p∧Val PC E m ops fr i v.1 p v.2 o
  rd : ∀ i∈B,∀ o,ops[i]?=some o → ∀ v∈vs,readsB o v.1=false
  lat : ∀ i∈B,∀ j∈later ops ps (setAll listed (B.erase i)),j=i
theorem mem_later {ops:Array Oper} {ps:List Nat} {l:Array Bool} {j:Nat}:j∈later ops ps l↔l.getD j true=false∧j ∉ ps ∧ ∃ o,ops[j]?=some o ∧ ∀ e∈o.after,Region.binds .any e=true→l.getD e.on false=true∨e.on∈ps:=by
  unfold later
  rw[List.mem_filter]
  constructor
  · rintro ⟨h1,h2⟩
    simp only[Bool.and_eq_true,Bool.not_eq_true',List.contains_eq_mem,decide_eq_false_iff_not]at h2
    obtain ⟨⟨h2,h3⟩,h4⟩:=h2
    split at h4
    · rename_i o ho
      refine ⟨h2,h3,o,ho,fun e he hb=>?_⟩
      have:=Array.all_eq_true_iff_forall_mem.1 h4 e he
      simp only[hb,Bool.not_true,Bool.false_or,Bool.or_eq_true,decide_eq_true_eq]at this
      exact this
    · cases h4
  · rintro ⟨h1,h2,o,ho,h3⟩
    refine ⟨List.mem_range.2 (Array.getElem?_eq_some_iff.1 ho).1,?_⟩
    simp only[h1,ho,Bool.not_false,Bool.true_and,Bool.and_eq_true,Bool.not_eq_true',List.contains_eq_mem,decide_eq_false_iff_not]
    refine ⟨h2,Array.all_eq_true_iff_forall_mem.2 fun e he=>?_⟩
    cases hb:Region.binds .any e with
    | false=>simp
    | true =>
      have:=h3 e he hb
      simp only[Bool.not_true,Bool.false_or,Bool.or_eq_true,decide_eq_true_eq]
      exact this
theorem getD_on {l:Array Bool} {xs:List Nat} {k:Nat} (h:l.getD k false=true):(setAll l xs).getD k false=true:=by
  rw[on_iff]at h ⊢
  rw[setAll_at]
  split
  · rfl
  · exact h
theorem later_sub {PC:List (PCon con)} {E:Env P} {m:Mem} {ops:Array Oper} {sd:Nat→Bool} {ps:List Nat} {listed:Array Bool} {fr:List Av} {B:List Nat} {vs:List (Tmp×Av)} (h:Bun PC E m ops sd ps listed fr B vs) (hne:B≠[]) {j:Nat} (hj:j∈later ops ps listed):j∈B:=by
  obtain ⟨i,r,rfl⟩ : ∃ i r,B=i::r:=by
    match B,hne with
    | i::r,_=>exact ⟨i,r,rfl⟩
  refine Classical.byContradiction fun hn=>?_
  have hm:=h.lat i (by simp) j
  rw[mem_later]at hj
  obtain ⟨h1,h2,o,ho,h3⟩:=hj
  have:=hm (mem_later.2 ⟨by
    rw[off_iff]at h1 ⊢
    rw[setAll_at,if_neg (fun h=>hn (List.mem_of_mem_erase h.1))]
    exact h1,h2,o,ho,fun e he hb=>(h3 e he hb).imp getD_on id⟩)
  exact hn (by rw[this];simp)
theorem ready_later {ops:Array Oper} {ps:List Nat} {l:Array Bool} {j:Nat} (h:j∈Region.ready .any ops l) (hp:j ∉ ps):j∈later ops ps l:=by
  rw[mem_ready]at h
  obtain ⟨h1,o,ho,h2⟩:=h
  exact mem_later.2 ⟨h1,hp,o,ho,fun e he hb=>.inl (h2 e he hb)⟩
theorem bunch_wp {PC:List (PCon con)} {E:Env P} (hE:E.con=con) {ops:Array Oper} {sd ok:Nat→Bool} {ps:List Nat} {Q:St→Prop} {m:Mem} : ∀ (k:Nat) (B:List Nat) (vs:List (Tmp×Av)) (listed:Array Bool) (fr:List Av) (n:Nat),B.length=k→Bun PC E m ops sd ps listed fr B vs →
    (runAny E ops sd ok ps n (setAll listed B) ⟨putAll fr vs,m⟩).wp Q→(runAny E ops sd ok ps (n+k) listed ⟨fr,m⟩).wp Q:=by
  intro k
  induction k with
  | zero =>
    intro B vs listed fr n hk hB h
    obtain rfl:B=[]:=List.length_eq_zero_iff.1 hk
    obtain rfl:vs=[]:=List.length_eq_zero_iff.1 (by rw[hB.len];rfl)
    exact h
  | succ k ih =>
    intro B vs listed fr n hk hB h
    have hne:B≠[]:=fun e=>by rw[e]at hk;simp at hk
    have sub : ∀ j,j∈Region.ready .any ops listed→j ∉ ps→j∈B:=fun j h1 h2=>later_sub hB hne (ready_later h1 h2)
    show (runAny E ops sd ok ps (n+k+1) listed ⟨fr,m⟩).wp Q
    unfold runAny
    have hf:((Region.ready .any ops listed).find? fun i=>sd i && !ps.contains i&&Region.free .any ops listed i)=none:=by
      rw[List.find?_eq_none]
      intro j hj
      by_cases hp:j∈ps
      · simp[hp]
      · rw[(hB.rdy j (sub j hj hp)).2.2];simp
    rw[hf]
    simp only[]
    have hmemR : ∀ j,j∈((Region.ready .any ops listed).filter fun i => !ps.contains i)↔j∈B:=fun j=>by
      rw[List.mem_filter]
      constructor
      · rintro ⟨h1,h2⟩
        exact sub j h1 (by simpa using h2)
      · intro hj
        have:=hB.rdy j hj
        exact ⟨this.1,by simpa using this.2.1⟩
    split
    · rename_i he
      exfalso
      obtain ⟨i,r,rfl⟩ : ∃ i r,B=i::r:=by
        match B,hne with
        | i::r,_=>exact ⟨i,r,rfl⟩
      have:=(hmemR i).2 (by simp)
      rw[he]at this
      cases this
    · rename_i r rs he
      have hl:((later ops ps listed).all fun j=>(r::rs).contains j)=true:=List.all_eq_true.2 fun j hj=>by
        have:=(hmemR j).2 (later_sub hB hne hj)
        rw[he]at this
        simpa using this
      rw[hl]
      refine branch_all (by simp) fun i hi=>?_
      have hiB:i∈B:=(hmemR i).1 (by rw[he];exact hi)
      obtain ⟨l1,l2,e1,hn1⟩:=List.append_of_mem hiB |> fun ⟨a,b,e⟩=>(⟨a,b,e,by
        have:=hB.nd
        rw[e,List.nodup_append]at this
        exact fun hm=>this.2.2 i hm i (by simp) rfl⟩ : ∃ l1 l2,B=l1++i::l2∧i ∉ l1)
      have hlen:=hB.len
      have hk1:l1.length<vs.length:=by rw[hlen,e1];simp
      have hB1:B[l1.length]?=some i:=by rw[e1];simp
      have hv1:vs[l1.length]?=some vs[l1.length]:=List.getElem?_eq_getElem hk1
      obtain ⟨o,p,hp,hval⟩:=hB.val _ _ _ hB1 hv1
      generalize hvv:vs[l1.length]=v at hval hv1
      obtain ⟨d,av⟩:=v
      have evs:vs=vs.take l1.length++(d,av)::vs.drop (l1.length+1):=by
        have:=List.take_append_drop l1.length vs
        rw[List.drop_eq_getElem_cons hk1,hvv]at this
        exact this.symm
      simp only[hval.at_]
      obtain ⟨hg,hcall⟩:=valP_wp (E:=E) (m:=m) (K:=fun e=>(match e.wr.all fun i => !ok i with
        | true=>runAny E ops sd ok ps (n+k) (listed.setIfInBounds i true) ⟨putFr fr o.dst e.av,e.mem⟩
        | false=>.fail).wp Q) hE hval.val hp (by
        simp only[List.all_nil]
        rw[hval.dst]
        have hBe:B.erase i=l1++l2:=by
          rw[e1,List.erase_append_right _ hn1,List.erase_cons_head]
        have hnd:=hB.nd
        rw[e1]at hnd
        have hnd2:(l1++l2).Nodup:=hnd.sublist (List.Sublist.append_left (List.sublist_cons_self _ _) _)
        have hni2:i ∉ l1++l2:=fun hm=>by
          rw[List.nodup_append,List.nodup_cons]at hnd
          rcases List.mem_append.1 hm with hm|hm
          · exact hn1 hm
          · exact hnd.2.1.1 hm
        have hndd:=hB.ndd
        rw[evs,List.map_append,List.map_cons]at hndd
        have hdn : ∀ q∈vs.take l1.length++vs.drop (l1.length+1),q.1≠d:=fun q hq e=>by
          rw[List.nodup_append,List.nodup_cons]at hndd
          rcases List.mem_append.1 hq with hq|hq
          · exact hndd.2.2 _ (List.mem_map.2 ⟨q,hq,rfl⟩) d (by simp) e
          · exact hndd.2.1.1 (List.mem_map.2 ⟨q,hq,e⟩)
        have hvsub : ∀ q,q∈vs.take l1.length++vs.drop (l1.length+1)→q∈vs:=fun q hq=>by
          rcases List.mem_append.1 hq with hq|hq
          · exact List.mem_of_mem_take hq
          · exact List.mem_of_mem_drop hq
        have hdv:(d,av)∈vs:=by rw[evs];simp
        have hset : ∀ xs ys,(∀ z,z∈ys↔z=i∨z∈xs)→setAll (listed.setIfInBounds i true) xs=setAll listed ys:=fun xs ys=>setAll_swap
        refine ih (l1++l2) (vs.take l1.length++vs.drop (l1.length+1)) _ _ n (by
          rw[e1]at hk
          simp only[List.length_append,List.length_cons]at hk ⊢
          omega) ⟨?_,hnd2,?_,fun j hj=>?_,fun q j v hq hv=>?_,fun j hj o' ho' q hq=>?_,fun j hj z hz=>?_⟩ ?_
        · rw[List.length_append,List.length_take,List.length_drop,hlen,e1]
          simp only[List.length_append,List.length_cons]
          omega
        · rw[List.map_append]
          exact hndd.sublist (List.Sublist.append_left (List.sublist_cons_self _ _) _)
        · have hjB:j∈B:=List.mem_of_mem_erase (hBe ▸ hj)
          obtain ⟨h1,h2,h3⟩:=hB.rdy j hjB
          refine ⟨?_,h2,h3⟩
          rw[mem_ready]at h1 ⊢
          obtain ⟨h4,o',ho',h5⟩:=h1
          refine ⟨?_,o',ho',fun e he hb=>getD_on (xs:=[i]) (h5 e he hb)⟩
          rw[off_iff]at h4 ⊢
          exact set_off.2 ⟨h4,fun e=>hni2 (e ▸ hj)⟩
        · have key : ∃ q':Nat,B[q']?=some j∧vs[q']?=some v:=by
            have hl2:(vs.take l1.length).length=l1.length:=by rw[List.length_take];omega
            rcases Nat.lt_or_ge q l1.length with hlt|hge
            · refine ⟨q,?_,?_⟩
              · rw[List.getElem?_append_left hlt]at hq
                rw[e1,List.getElem?_append_left hlt];exact hq
              · rw[List.getElem?_append_left (by omega),List.getElem?_take,if_pos hlt]at hv
                exact hv
            · refine ⟨q+1,?_,?_⟩
              · rw[List.getElem?_append_right hge]at hq
                rw[e1,List.getElem?_append_right (by omega),show q+1-l1.length=(q-l1.length)+1 by omega,List.getElem?_cons_succ];exact hq
              · rw[List.getElem?_append_right (by omega),hl2,List.getElem?_drop]at hv
                rw[show q+1=l1.length+1+(q-l1.length) by omega];exact hv
          obtain ⟨q',k1,k2⟩:=key
          obtain ⟨o',p',hp',hv'⟩:=hB.val _ _ _ k1 k2
          refine ⟨o',p',hp',hv'.at_,hv'.dst,?_⟩
          have:readsB o' d=false:=hB.rd j (List.mem_of_getElem? k1) o' hv'.at_ _ hdv
          exact (valP_set this).trans hv'.val
        · exact hB.rd j (List.mem_of_mem_erase (hBe ▸ hj)) o' ho' q (hvsub q hq)
        · refine hB.lat j (List.mem_of_mem_erase (hBe ▸ hj)) z ?_
          have e2:=hset ((l1++l2).erase j) (B.erase j) fun z=>by
            have hjB:j∈B:=List.mem_of_mem_erase (hBe ▸ hj)
            have hji:j≠i:=fun e=>hni2 (e ▸ hj)
            rw[hB.nd.mem_erase_iff,hnd2.mem_erase_iff,e1]
            simp only[List.mem_append,List.mem_cons]
            constructor
            · rintro ⟨h1,h2|h2|h2⟩
              · exact .inr ⟨h1,.inl h2⟩
              · exact .inl h2
              · exact .inr ⟨h1,.inr h2⟩
            · rintro (h1|⟨h1,h2|h2⟩)
              · exact ⟨h1 ▸ (Ne.symm hji),.inr (.inl h1)⟩
              · exact ⟨h1,.inl h2⟩
              · exact ⟨h1,.inr (.inr h2)⟩
          rw[←e2];exact hz
        · have e3:=hset (l1++l2) B fun z=>by
            rw[e1]
            simp only[List.mem_append,List.mem_cons]
            constructor
            · rintro (h1|h1|h1)
              · exact .inr (.inl h1)
              · exact .inl h1
              · exact .inr (.inr h1)
            · rintro (h1|h1|h1)
              · exact .inr (.inl h1)
              · exact .inl h1
              · exact .inr (.inr h1)
          rw[e3]
          rw[evs,putAll_at _ _ _ _ _ fun q hq=>hdn q (List.mem_append_left _ hq)]at h
          exact h)
      unfold guarded
      rw[hg]
      simp only[]
      rw[T.wp_bind]
      exact hcall
end
section
variable {P:Program} {con:List (Con P)}
theorem bVals_spec {PC:List (PCon con)} {E:Env P} {m:Mem} {ops:Array Oper} {fr:List Av} : ∀ (B:List Nat) {p:Prop} {vs:List (Tmp×Av)},bVals PC E m ops fr B=some (p,vs)→p →
    vs.map (·.1)=B.map (dstOf ops) ∧ ∀ (k i:Nat) (v:Tmp×Av),B[k]?=some i→vs[k]?=some v → ∃ o p,p∧Val PC E m ops fr i v.1 p v.2 o
  | [],p,vs,h,hp=>by cases h;exact ⟨rfl,fun k i v h=>by simp at h⟩
  | i::r,p,vs,h,hp=>by
    unfold bVals at h
    split at h
    · rename_i o ho
      split at h
      · rename_i d q av q' l hd hc hr
        cases h
        obtain ⟨i1,i2⟩:=bVals_spec r hr hp.2
        refine ⟨by simp[i1,dstOf,ho,hd],fun k j v hk hv=>?_⟩
        rcases k with _|k
        · cases hk;cases hv
          exact ⟨o,q,hp.1,ho,hd,hc⟩
        · exact i2 k j v (by simpa using hk) (by simpa using hv)
      · cases h
    · cases h
def bunchQ (PC:List (PCon con)) (E:Env P) (m:Mem) (ops:Array Oper) (sd:Nat→Bool) (ps:List Nat) (listed:Array Bool) (fr:List Av) (n:Nat) (B:List Nat):Option (Prop×List (Tmp×Av)):=
  match decide (2≤B.length)&&decide (B.length≤n)&&bOk ops sd ps listed B with
  | true=>bVals PC E m ops fr B
  | false=>none
theorem bun_of {PC:List (PCon con)} {E:Env P} {m:Mem} {ops:Array Oper} {sd:Nat→Bool} {ps:List Nat} {listed:Array Bool} {fr:List Av} {n:Nat} {B:List Nat} {p:Prop} {vs:List (Tmp×Av)} (h:bunchQ PC E m ops sd ps listed fr n B=some (p,vs)) (hp:p)
    (hr : ∀ i∈B,i∈Region.ready .any ops listed∧i ∉ ps):B.length≤n∧Bun PC E m ops sd ps listed fr B vs:=by
  unfold bunchQ at h
  split at h
  · rename_i hb
    simp only[Bool.and_eq_true,decide_eq_true_eq]at hb
    obtain ⟨⟨_,hn⟩,hb⟩:=hb
    unfold bOk at hb
    simp only[Bool.and_eq_true,List.all_eq_true,decide_eq_true_eq,Bool.not_eq_true']at hb
    obtain ⟨⟨h1,h2⟩,h3⟩:=hb
    obtain ⟨e1,e2⟩:=bVals_spec B h hp
    refine ⟨hn,?_,nodB_ok h1,?_,fun i hi=>⟨(hr i hi).1,(hr i hi).2,(h3 i hi).1.1⟩,e2,fun i hi o ho v hv=>?_,fun i hi j hj=>(h3 i hi).2 j hj⟩
    · have:=congrArg List.length e1
      simpa using this
    · rw[e1];exact nodB_ok h2
    · have hm:v.1∈B.map (dstOf ops):=e1 ▸ List.mem_map.2 ⟨v,hv,rfl⟩
      obtain ⟨j,hj,ej⟩:=List.mem_map.1 hm
      have:=(h3 j hj).1.2 i hi
      rw[ho]at this
      rw[←ej]
      simpa using this
  · cases h
theorem guarded_mono {α:Type} {sure:Bool} {ops:Array Oper} {o:Oper} {st:St} {yes no yes' no':St→T α} {Q:α→Prop} (hy : ∀ st,(yes st).wp Q→(yes' st).wp Q) (hn : ∀ st,(no st).wp Q→(no' st).wp Q)
    (h:(guarded sure ops o st yes no).wp Q):(guarded sure ops o st yes' no').wp Q:=by
  have hb : ∀ (b want:Bool) (x y x' y':T α),(x.wp Q→x'.wp Q)→(y.wp Q→y'.wp Q)→(bsel b want x y).wp Q→(bsel b want x' y').wp Q:=fun b want x y x' y' h1 h2 h=>by
    cases b <;> cases want <;> first|exact h1 h|exact h2 h
  unfold guarded at h ⊢
  split at h
  · exact hy _ h
  · split at h
    · split at h
      · exact hb _ _ _ _ _ _ (hy _) (hn _) h
      · split at h
        · exact ⟨h.1,hy _ h.2⟩
        · exact ⟨fun e=>hb _ _ _ _ _ _ (hy _) (hn _) (h.1 e),fun e=>hb _ _ _ _ _ _ (hy _) (hn _) (h.2 e)⟩
      · exact hn _ h
      · exact h
    · exact h
def runAnyB (PC:List (PCon con)) (E:Env P) (ops:Array Oper) (sd ok:Nat→Bool) (ps:List Nat):Nat→Nat→Array Bool→St→T St
  | 0,_,_,_=>.fail
  | _+1,0,listed,st=>match Region.ready .any ops listed with
    | []=>.ret st
    | _=>.fail
  | k+1,n+1,listed,st=>fSt st fun st =>
    match (Region.ready .any ops listed).find? fun i=>sd i && !ps.contains i&&Region.free .any ops listed i with
    | some i=>match ops[i]? with
      | none=>.fail
      | some o=>guarded (E.sure 0) ops o st (fun st=>(aS P E.zero ok st.mem st.fr o).bind fun av=>runAnyB PC E ops sd ok ps k n (listed.setIfInBounds i true) ⟨putFr st.fr o.dst av,st.mem⟩)
          (fun st=>runAnyB PC E ops sd ok ps k n (listed.setIfInBounds i true) ⟨putFr st.fr o.dst .nope,st.mem⟩)
    | none=>match (Region.ready .any ops listed).filter fun i => !ps.contains i with
      | []=>match Region.ready .any ops listed with
        | []=>.ret st
        | i::_=>match (later ops ps listed).all (waits ops i),ops[i]? with
          | true,some o=>match o.op with
            | .alloc t=>optT (E.zero.find? fun z=>z.ty==t) fun z=>runAnyB PC E ops sd ok ps k n (listed.setIfInBounds i true) ⟨putFr st.fr o.dst (.one (.p st.mem.length 0)),st.mem++[(t,z.cs)]⟩
            | _=>.fail
          | _,_=>.fail
      | r::rs=>match bunchQ PC E st.mem ops sd ps listed st.fr (n+1) (r::rs) with
        | some (p,vs)=>.need p (runAnyB PC E ops sd ok ps k (n+1-(r::rs).length) (setAll listed (r::rs)) ⟨putAll st.fr vs,st.mem⟩)
        | none=>match (later ops ps listed).all fun j=>(r::rs).contains j with
          | false=>.fail
          | true=>branch (fun i=>match ops[i]? with
            | none=>.fail
            | some o=>guarded (E.sure 0) ops o st
              (fun st=>(aE E st.fr st.mem o).bind fun e=>match e.wr.all fun i => !ok i with
                | true=>runAnyB PC E ops sd ok ps k n (listed.setIfInBounds i true) ⟨putFr st.fr o.dst e.av,e.mem⟩
                | false=>.fail)
              (fun st=>runAnyB PC E ops sd ok ps k n (listed.setIfInBounds i true) ⟨putFr st.fr o.dst .nope,st.mem⟩)) (r::rs)
theorem runAnyB_wp {PC:List (PCon con)} {E:Env P} (hE:E.con=con) {ops:Array Oper} {sd ok:Nat→Bool} {ps:List Nat} {Q:St→Prop} : ∀ (k n:Nat) (listed:Array Bool) (st:St),(runAnyB PC E ops sd ok ps k n listed st).wp Q→(runAny E ops sd ok ps n listed st).wp Q:=by
  intro k
  induction k with
  | zero=>intro n listed st h;unfold runAnyB at h;exact h.elim
  | succ k ih =>
    intro n listed st h
    cases n with
    | zero=>unfold runAnyB at h;unfold runAny;exact h
    | succ n =>
      unfold runAnyB at h
      rw[fSt_eq]at h
      have hfull:(runAny E ops sd ok ps (n+1) listed st).wp Q↔(runAny E ops sd ok ps (n+1) listed st).wp Q:=Iff.rfl
      conv=>unfold runAny
      split at h
      · rename_i i hi
        rw[hi]
        simp only[]
        split at h
        · exact h.elim
        · rename_i o ho
          rw[ho]
          simp only[]
          refine guarded_mono (fun st h=>?_) (fun st h=>ih _ _ _ h) h
          rw[T.wp_bind]at h ⊢
          exact T.wp_mono (fun av h=>ih _ _ _ h) h
      · rename_i hi
        rw[hi]
        simp only[]
        split at h
        · rename_i he
          rw[he]
          simp only[]
          split at h
          · rename_i hr
            rw[hr]
            exact h
          · rename_i i r hr
            rw[hr]
            simp only[]
            split at h
            · rename_i o hl ho
              rw[hl,ho]
              simp only[]
              split at h
              · rename_i t hop
                rw[hop]
                simp only[]
                obtain ⟨z,hz,h⟩:=optT_wp h
                rw[hz]
                exact ih _ _ _ h
              · exact h.elim
            · exact h.elim
        · rename_i r rs he
          rw[he]
          simp only[]
          split at h
          · rename_i p vs hb
            obtain ⟨hp,h⟩:=h
            have hmem : ∀ i∈r::rs,i∈Region.ready .any ops listed∧i ∉ ps:=fun i hm=>by
              rw[←he,List.mem_filter]at hm
              exact ⟨hm.1,by simpa using hm.2⟩
            obtain ⟨hn,hbun⟩:=bun_of hb hp hmem
            have:=bunch_wp (m:=st.mem) (ok:=ok) (Q:=Q) (E:=E) hE _ _ vs listed st.fr (n+1-(r::rs).length) rfl hbun (ih _ _ _ h)
            rw[Nat.sub_add_cancel hn]at this
            unfold runAny at this
            rw[hi]at this
            simp only[]at this
            rw[he]at this
            exact this
          · split at h
            · exact h.elim
            · rename_i hl
              rw[hl]
              refine branch_all (by simp) fun i hm=>?_
              have h:=branch_wp h i hm
              split at h
              · exact h.elim
              · rename_i o ho
                rw[ho]
                refine guarded_mono (fun st h=>?_) (fun st h=>ih _ _ _ h) h
                rw[T.wp_bind]at h ⊢
                refine T.wp_mono (fun e h=>?_) h
                split at h
                · rename_i hw
                  rw[hw]
                  exact ih _ _ _ h
                · exact h.elim
def runDrawB (PC:List (PCon con)) (E:Env P) (ops:Array Oper) (st:St):T St:=
  let W:=writes E ops.toList st.fr++(match ops.toList.any (reaches E) with
    | true=>rowsIn st.mem
    | false=>[])
  let ps:=(List.range ops.size).filter (early E ops st.fr.length)
  match Region.noSelect ops with
  | true=>runAnyB PC E ops (fun i=>match ops[i]? with|some o=>steady o.op && !loadsOf ops.toList st.fr W o|none=>false) (fun i=>decide (i<st.mem.length) && !W.contains i) ps (ops.size+1) ops.size (Array.replicate ops.size false) ⟨hide ops ps st.fr,st.mem⟩
  | false=>.fail
theorem runDrawB_wp {PC:List (PCon con)} {E:Env P} (hE:E.con=con) {ops:Array Oper} {st:St} {Q:St→Prop} (h:(runDrawB PC E ops st).wp Q):(runDraw E ops st).wp Q:=by
  unfold runDrawB at h
  unfold runDraw
  simp only[]at h ⊢
  split at h
  · rename_i hs
    rw[hs]
    exact runAnyB_wp hE _ _ _ _ h
  · exact h.elim
theorem bsel_mono {α:Type} {b want:Bool} {x y x' y':T α} {Q:α→Prop} (h1:x.wp Q→x'.wp Q) (h2:y.wp Q→y'.wp Q) (h:(bsel b want x y).wp Q):(bsel b want x' y').wp Q:=by
  cases b <;> cases want <;> first|exact h1 h|exact h2 h
end
def noFz:Nat→Nat→Option Ck:=fun _ _=>none
def subMem (I:List Nat) (m:Mem):Mem:=I.map fun i=>match m[i]? with
  | some e=>(e.1,e.2.map (reC (posOf I) noFz))
  | none=>(0,[])
def backI (I:List Nat) (n p:Nat):Option Nat:=match I[p]? with
  | some i=>some i
  | none=>some (n+(p-I.length))
def backMem (I:List Nat) (m m1:Mem):Mem:=((List.range m.length).map fun i=>match posOf I i with
    | some p=>(match m1[p]? with
      | some e=>(e.1,e.2.map (reC (backI I m.length) noFz))
      | none=>(0,[]))
    | none=>m.getD i (0,[]))++(m1.drop I.length).map fun e=>(e.1,e.2.map (reC (backI I m.length) noFz))
def inlRun {P:Program} (E:Env P) (L:Loops) (fn:Func) (K:Nat) (pos:List Nat) (args:List Av) (m:Mem):T (Av×Mem):=
  fAvs args fun args=>fMem m fun m=>fNats (wrOf pos args m) fun I=>match I.all (fun i=>decide (i<m.length))&&nodB I&&decide (I.length≤K) with
  | true=>fAvs (args.map (reA (posOf I) noFz)) fun args'=>fMem (subMem I m) fun m'=>(fnRun E L fn args' m').bind fun r=>fMem r.2 fun m1=>fAv (reA (backI I m.length) noFz r.1) fun av=>fMem (backMem I m m1) fun m2=>.ret (av,m2)
  | false=>.fail
theorem no_fz {w:World} {R':Nat→Prop} {σ σ':List Nat} {f:Nat→Option Nat} (i n:Nat):FzOk w R' σ σ' f noFz i n:=fun b cap c _ _ _ h=>by cases h
theorem inl_ok {P:Program} {E:Env P} {L:Loops} {f:FuncId} {fn:Func} (hm:P.follows .mixedOrders=true) (hf:P.funcs[f]?=some fn) (K:Nat) (hL : ∀ c,fn.body=some c→LoopsOk P K L c) (pos:List Nat):ConOk P f pos (inlRun E L fn K pos):=by
  intro w φ σ m args vs Q hmem hlen hargs hrun
  unfold inlRun at hrun
  simp only[fAvs_eq,fAv_eq,fMem_eq,fNats_eq]at hrun
  generalize hIe:wrOf pos args m=I at hrun ⊢
  split at hrun
  case h_2=>exact hrun.elim
  rename_i hI
  simp only[Bool.and_eq_true,decide_eq_true_eq]at hI
  obtain ⟨⟨hI1,hI2⟩,hI3⟩:=hI
  have hnd:=nodB_ok hI2
  have hml:m.length=σ.length:=hmem.len
  have hlt : ∀ i∈I,i<σ.length:=fun i hi=>by
    have:=of_decide_eq_true (List.all_eq_true.1 hI1 i hi)
    omega
  have get : ∀ i,i<σ.length → ∃ b,σ[i]?=some b∧σ.getD i 0=b:=fun i hi=>⟨σ[i],List.getElem?_eq_getElem hi,by simp[hi]⟩
  have inj : ∀ i j b,σ[i]?=some b→σ[j]?=some b→i=j:=fun i j b h1 h2=>by
    obtain ⟨l1,e1⟩:=List.getElem?_eq_some_iff.1 h1
    obtain ⟨l2,e2⟩:=List.getElem?_eq_some_iff.1 h2
    exact (List.getElem_inj hmem.nodup).1 (e1.trans e2.symm)
  generalize hs0:(I.map fun i=>σ.getD i 0)=σ0
  have hs0l:σ0.length=I.length:=by rw[←hs0,List.length_map]
  have at0 : ∀ (p i:Nat) b,I[p]?=some i→σ[i]?=some b→σ0[p]?=some b:=fun p i b h1 h2=>by
    rw[←hs0,List.getElem?_map,h1,Option.map_some]
    obtain ⟨b',h3,h4⟩:=get i (List.getElem?_eq_some_iff.1 h2).1
    rw[h4]
    rw[h2]at h3
    exact h3.symm
  have mem0 : ∀ b,b∈σ0 → ∃ i∈I,σ[i]?=some b:=fun b hb=>by
    rw[←hs0]at hb
    obtain ⟨i,hi,rfl⟩:=List.mem_map.1 hb
    obtain ⟨b,h1,h2⟩:=get i (hlt i hi)
    exact ⟨i,hi,by rw[h2];exact h1⟩
  have sub0 : ∀ b,b∈σ0→b∈σ:=fun b hb=>by
    obtain ⟨i,_,h⟩:=mem0 b hb
    exact List.mem_of_getElem? h
  have nd0:σ0.Nodup:=by
    rw[←hs0]
    unfold List.Nodup
    rw[List.pairwise_map]
    refine hnd.imp_of_mem fun {i j} hi hj hne e=>hne ?_
    obtain ⟨b,h1,h2⟩:=get i (hlt i hi)
    obtain ⟨b',h3,h4⟩:=get j (hlt j hj)
    rw[h2,h4]at e
    subst e
    exact inj i j b h1 h3
  have out0 : ∀ i b,σ[i]?=some b→i ∉ I→b ∉ σ0:=fun i b hb hn hm0=>by
    obtain ⟨j,hj,hb'⟩:=mem0 b hm0
    exact hn (inj i j b hb hb' ▸ hj)
  generalize hφe:φ++σ.filter (fun b => !decide (b∈σ0))=φ'
  have inφ : ∀ b,b∈φ'↔b∈φ∨(b∈σ∧b ∉ σ0):=fun b=>by
    rw[←hφe,List.mem_append,List.mem_filter]
    simp
  have hro : ∀ b,Ro w φ σ b→Ro w φ' σ0 b:=fun b hb=>⟨hb.1,fun h=>by
    rcases (inφ b).1 h with h1|h1
    · exact hb.2.1 h1
    · exact hb.2.2 h1.1,fun h=>hb.2.2 (sub0 b h)⟩
  have hf0 : ∀ i b j:Nat,σ[i]?=some b→posOf I i=some j→σ0[j]?=some b:=fun i b j hb hj=>at0 j i b (posOf_get hj) hb
  have hmem0:MemOk w φ' σ0 (subMem I m):=⟨by simp[subMem,hs0l],nd0,fun b hb=>by
      rcases (inφ b).1 hb with h1|h1
      · exact hmem.fo b h1
      · exact hmem.lt h1.1,hmem.gl.mono fun z hz=>⟨hro z hz,rfl⟩,fun j t cs b hj hb=>by
      unfold subMem at hj
      rw[List.getElem?_map]at hj
      cases hq:I[j]? with
      | none=>rw[hq]at hj;simp at hj
      | some i =>
        rw[hq]at hj
        simp only[Option.map_some,Option.some.injEq]at hj
        obtain ⟨b',h1,_⟩:=get i (hlt i (List.mem_of_getElem? hq))
        have hb':=at0 j i b' hq h1
        rw[hb]at hb'
        cases hb'
        cases hmi:m[i]? with
        | none =>
          have:=List.getElem?_eq_none_iff.1 hmi
          have:=hlt i (List.mem_of_getElem? hq)
          omega
        | some e =>
          obtain ⟨t0,cs0⟩:=e
          rw[hmi]at hj
          cases hj
          obtain ⟨us,h3,h4⟩:=hmem.blk i t0 cs0 b hmi h1
          exact ⟨us,h3,h4.re hro hf0 fun i n cap _=>no_fz i n⟩⟩
  rw[T.wp_bind]at hrun
  refine (fn_ok (E:=E) (L:=L) hm hf hL (by simp[subMem];exact hI3) hmem0 (by rw[List.length_map];exact hlen) (fun i a v ha hv=>by
    rw[List.getElem?_map]at ha
    cases hq:args[i]? with
    | none=>rw[hq]at ha;simp at ha
    | some a0 =>
      rw[hq]at ha
      simp only[Option.map_some,Option.some.injEq]at ha
      subst ha
      exact (hargs i a0 v hq hv).re hro hf0 fun i n cap _=>no_fz i n) hrun).mono fun e w' hr=>?_
  obtain ⟨v,av,m1,σ1,rfl,hQ,hext,hkeep,hav,hmem1⟩:=hr
  obtain ⟨τ,rfl,hτ⟩:=hext.pre
  have hm1:m1.length=I.length+τ.length:=by
    have:=hmem1.len
    rw[List.length_append,hs0l]at this
    exact this
  have hro1 : ∀ b,Ro w' φ' (σ0++τ) b→Ro w' φ (σ++τ) b:=fun b hb=>⟨hb.1,fun h=>hb.2.1 ((inφ b).2 (.inl h)),fun h=>by
    rcases List.mem_append.1 h with h1|h1
    · by_cases h2:b∈σ0
      · exact hb.2.2 (List.mem_append_left _ h2)
      · exact hb.2.1 ((inφ b).2 (.inr ⟨h1,h2⟩))
    · exact hb.2.2 (List.mem_append_right _ h1)⟩
  have hback : ∀ p b i:Nat,(σ0++τ)[p]?=some b→backI I m.length p=some i→(σ++τ)[i]?=some b:=fun p b i hb hi=>by
    unfold backI at hi
    split at hi
    · rename_i j hj
      have hji:j=i:=Option.some.inj hi
      subst hji
      have hjl:=hlt j (List.mem_of_getElem? hj)
      have hpl:=(List.getElem?_eq_some_iff.1 hj).1
      obtain ⟨b',h1,_⟩:=get j hjl
      have:=at0 p j b' hj h1
      rw[List.getElem?_append_left (by omega),this]at hb
      cases hb
      rw[List.getElem?_append_left hjl]
      exact h1
    · rename_i hj
      cases hi
      have hpl:=List.getElem?_eq_none_iff.1 hj
      rw[List.getElem?_append_right (by omega),hs0l]at hb
      rw[List.getElem?_append_right (by omega),show m.length+(p-I.length)-σ.length=p-I.length by omega]
      exact hb
  have hold : ∀ i b:Nat,σ[i]?=some b→i ∉ I→w'.heap[b]?=w.heap[b]?:=fun i b hb hi=>hkeep.block b (hmem.lt (List.mem_of_getElem? hb)) (out0 i b hb hi)
  refine ⟨v,_,_,σ++τ,rfl,hQ,⟨⟨τ,rfl,hτ⟩⟩,⟨hkeep.os,hkeep.tape,hkeep.output,hkeep.size,fun k hk hn=>hkeep.block k hk fun h=>hn (sub0 k h)⟩,fun i b hb hn=>hold i b hb hn,hav.re hro1 hback fun i n cap _=>no_fz i n,?_⟩
  refine ⟨by simp[backMem,hm1];omega,?_,fun b hb=>Nat.lt_of_lt_of_le (hmem.fo b hb) hkeep.size,hmem1.gl.mono fun z hz=>⟨hro1 z hz,rfl⟩,fun i t cs b hi hb=>?_⟩
  · rw[List.nodup_append]
    refine ⟨hmem.nodup,(List.nodup_append.1 hmem1.nodup).2.1,fun x hx y hy e=>?_⟩
    have h1:=hmem.lt hx
    have h2:=hτ y hy
    omega
  · unfold backMem at hi
    rcases Nat.lt_or_ge i m.length with hil|hil
    · rw[List.getElem?_append_left (by simpa using hil),List.getElem?_map,List.getElem?_range hil,Option.map_some]at hi
      rw[List.getElem?_append_left (by omega)]at hb
      split at hi
      · rename_i p hp
        have hIp:=posOf_get hp
        have hpl:=(List.getElem?_eq_some_iff.1 hIp).1
        have hb1:(σ0++τ)[p]?=some b:=by
          rw[List.getElem?_append_left (by omega)]
          exact at0 p i b hIp hb
        cases hm1p:m1[p]? with
        | none =>
          have:=List.getElem?_eq_none_iff.1 hm1p
          omega
        | some e =>
          obtain ⟨t0,cs0⟩:=e
          rw[hm1p]at hi
          cases hi
          obtain ⟨us,h3,h4⟩:=hmem1.blk p t0 cs0 b hm1p hb1
          exact ⟨us,h3,h4.re hro1 hback fun i n cap _=>no_fz i n⟩
      · rename_i hp
        have hni:=posOf_none hp
        have hmi:m[i]?=some (t,cs):=by
          rw[List.getElem?_eq_getElem hil]at *
          simpa [hil] using hi
        obtain ⟨us,h3,h4⟩:=hmem.blk i t cs b hmi hb
        refine ⟨us,(hold i b hb hni).trans h3,h4.mono (fun z hz=>⟨⟨Nat.lt_of_lt_of_le hz.1 hkeep.size,hz.2.1,fun h=>?_⟩,hkeep.block z hz.1 fun h=>hz.2.2 (sub0 z h)⟩) (fun j z hj=>by rw[List.getElem?_append_left (List.getElem?_eq_some_iff.1 hj).1];exact hj)⟩
        rcases List.mem_append.1 h with h1|h1
        · exact hz.2.2 h1
        · have:=hτ z h1
          have:=hz.1
          omega
    · rw[List.getElem?_append_right (by simpa using hil),List.getElem?_map,List.getElem?_drop]at hi
      rw[List.length_map,List.length_range]at hi
      rw[List.getElem?_append_right (by omega)]at hb
      cases hm1p:m1[I.length+(i-m.length)]? with
      | none=>rw[hm1p]at hi;simp at hi
      | some e =>
        obtain ⟨t0,cs0⟩:=e
        rw[hm1p]at hi
        cases hi
        have hb1:(σ0++τ)[I.length+(i-m.length)]?=some b:=by
          rw[List.getElem?_append_right (by omega),hs0l,show I.length+(i-m.length)-I.length=i-σ.length by omega]
          exact hb
        obtain ⟨us,h3,h4⟩:=hmem1.blk _ t0 cs0 b hm1p hb1
        exact ⟨us,h3,h4.re hro1 hback fun i n cap _=>no_fz i n⟩
structure Opt {P:Program} (con:List (Con P)):Type 1 where
  pc:List (PCon con)
  cs:List Tmp
  fc:Tmp→Option Bool
theorem swI_of {z:Int} {f:Nat→T Av} {K:Av→Prop} (h:(f z.toNat).wp K) : ∀ (k i:Nat),(i:Int)≤z→z≤(i+k:Nat)→(swI z f k i).wp K
  | 0,i,h1,h2=>by
    have:z.toNat=i:=by omega
    rw[this]at h;exact h
  | k+1,i,h1,h2=>by
    refine ⟨fun e=>?_,fun e=>?_⟩
    · have e:z=i:=by simpa using e
      have:z.toNat=i:=by omega
      rw[this]at h;exact h
    · have e:¬ z=i:=by simpa using e
      exact swI_of h k (i+1) (by omega) (by omega)
theorem index_T {P:Program} {t:TypeId} {x ix:Av} {K:Av→Prop} (h:(aIndex P t x ix).wp K):(aIndexT P t x ix).wp K:=by
  unfold aIndexT
  split
  · rename_i cs k z
    unfold aIndex at h
    simp only[]at h
    split at h
    · rename_i len e hu
      obtain ⟨n,hn,h1⟩:=optN_wp h
      obtain ⟨row,hrow,h2⟩:=optN_wp h1
      obtain ⟨hb,h3⟩:=h2
      rw[hn,hrow]
      exact ⟨hb,swI_of (f:=fun i=>optT (sub (i*n) n cs) fun m=>optT (mkOf row m) .ret) h3 _ _ (by omega) (by omega)⟩
    · exact h.elim
  · exact h
theorem indexAddr_T {P:Program} {m:Mem} {t:TypeId} {x ix:Av} {K:Av→Prop} (h:(aIndexAddr P m t x ix).wp K):(aIndexAddrT P m t x ix).wp K:=by
  unfold aIndexAddrT
  split
  · rename_i i off k z
    split
    · rename_i len e hu
      split
      · unfold aIndexAddr at h
        simp only[hu]at h
        obtain ⟨n,hn,h1⟩:=optN_wp h
        obtain ⟨hb,h3⟩:=h1
        rw[hn]
        refine ⟨hb,?_⟩
        split at h3
        · exact h3
        · exact swI_of (f:=fun j=>.ret (.one (.p i (off+j*n)))) h3 _ _ (by omega) (by omega)
      · exact h
    · rename_i hu
      unfold aIndexAddr at h
      simp only[]at h
      exact h
  · exact h
section
variable {P:Program} {con:List (Con P)}
def aEC (cs:List Tmp) (E:Env P) (fr:List Av) (m:Mem) (o:Oper):T Ef:=
  match o.op with
  | .index t x (.tmp k)=>match cs.contains k with
    | true=>(aIndex P t (operand fr x) (operand fr (.tmp k))).bind fun av=>.ret ⟨av,m,[]⟩
    | false=>aE E fr m o
  | .indexAddr t x (.tmp k)=>match cs.contains k with
    | true=>(aIndexAddr P m t (operand fr x) (operand fr (.tmp k))).bind fun av=>.ret ⟨av,m,[]⟩
    | false=>aE E fr m o
  | _=>aE E fr m o
theorem aEC_wp {cs:List Tmp} {E:Env P} {fr:List Av} {m:Mem} {o:Oper} {K:Ef→Prop} (h:(aEC cs E fr m o).wp K):(aE E fr m o).wp K:=by
  unfold aEC at h
  split at h
  · rename_i t x k hop
    split at h
    · rw[T.wp_bind]at h
      unfold aE
      simp only[hop]
      rw[T.wp_bind]
      unfold aS
      simp only[hop]
      exact index_T h
    · exact h
  · rename_i t x k hop
    split at h
    · rw[T.wp_bind]at h
      unfold aE
      simp only[hop]
      rw[T.wp_bind]
      unfold aS
      simp only[hop]
      exact indexAddr_T h
    · exact h
  · exact h
def runOpsC (cs:List Tmp) (E:Env P) (ops:Array Oper):List Oper→St→T St
  | [],st=>.ret st
  | o::r,st=>fSt st fun st=>guarded (E.sure 0) ops o st (fun st=>(aEC cs E st.fr st.mem o).bind fun e=>runOpsC cs E ops r ⟨putFr st.fr o.dst e.av,e.mem⟩) (fun st=>runOpsC cs E ops r ⟨putFr st.fr o.dst .nope,st.mem⟩)
theorem runOpsC_wp {cs:List Tmp} {E:Env P} {ops:Array Oper} {Q:St→Prop} : ∀ (l:List Oper) (st:St),(runOpsC cs E ops l st).wp Q→(runOps E ops l st).wp Q
  | [],_,h=>h
  | o::r,st,h=>by
    rw[runOpsC,fSt_eq]at h
    rw[runOps]
    refine guarded_mono (fun st h=>?_) (fun st h=>runOpsC_wp r _ h) h
    rw[T.wp_bind]at h ⊢
    exact aEC_wp (T.wp_mono (fun e h=>runOpsC_wp r _ h) h)
def codeC (O:Opt con) (E:Env P) (L:Loops):Code→St→T (Exit×St)
  | .skip,st=>.ret (.normal,st)
  | .label _,st=>.ret (.normal,st)
  | .region id ops false,st=>fSt st fun st=>(frzL E.base (E.frz id) st).bind fun st=>(runOpsC O.cs (E.sel id) ops ops.toList st).bind fun st=>.ret (.normal,st)
  | .region id ops true,st=>fSt st fun st=>(frzL E.base (E.frz id) st).bind fun st=>(runDrawB O.pc (E.sel id) ops st).bind fun st=>.ret (.normal,st)
  | .seq x y,st=>(codeC O E L x st).bind fun r=>match r.1 with
    | .normal=>codeC O E L y r.2
    | e=>.ret (e,r.2)
  | .cond (.tmp t) x y,st=>match st.fr[t]? with
    | some (.one (.kb b))=>bsel b true (codeC O E L x st) (codeC O E L y st)
    | some (.one (.v (.bool b)))=>match O.fc t with
      | some true=>.need (b=true) (codeC O E L x (know st t true))
      | some false=>.need (b=false) (codeC O E L y (know st t false))
      | none=>.ite b (codeC O E L x (know st t true)) (codeC O E L y (know st t false))
    | _=>.fail
  | .cond (.const (.bool b)) x y,st=>bsel b true (codeC O E L x st) (codeC O E L y st)
  | .block id c,st=>(codeC O E L c st).bind fun r=>.ret (exitBlock id r.1,r.2)
  | .loop c,st=>match L (Code.first c) with
    | some run=>run st
    | none=>.fail
  | .exit id,st=>.ret (.exit id,st)
  | .ret,st=>.ret (.ret,st)
  | _,_=>.fail
theorem codeC_wp {O:Opt con} {E:Env P} (hE:E.con=con) {L:Loops} : ∀ (c:Code) (st:St) {Q:Exit×St→Prop},(codeC O E L c st).wp Q→(code E L c st).wp Q:=by
  intro c
  induction c with
  | skip=>intro st Q h;exact h
  | label _=>intro st Q h;exact h
  | region id ops b =>
    intro st Q h
    cases b with
    | false =>
      rw[codeC,fSt_eq,T.wp_bind]at h
      rw[code,T.wp_bind]
      refine T.wp_mono (fun st h=>?_) h
      rw[T.wp_bind]at h ⊢
      exact runOpsC_wp _ _ h
    | true =>
      rw[codeC,fSt_eq,T.wp_bind]at h
      rw[code,T.wp_bind]
      refine T.wp_mono (fun st h=>?_) h
      rw[T.wp_bind]at h ⊢
      exact runDrawB_wp (E:=E.sel id) hE h
  | seq x y ihx ihy =>
    intro st Q h
    rw[codeC,T.wp_bind]at h
    rw[code,T.wp_bind]
    refine T.wp_mono (fun r h=>?_) (ihx st h)
    obtain ⟨e,st'⟩:=r
    cases e with
    | normal=>exact ihy _ h
    | _=>exact h
  | cond o x y ihx ihy =>
    intro st Q h
    cases o with
    | tmp t =>
      rw[codeC]at h
      rw[code]
      split at h
      · rename_i hx
        rw[hx]
        exact bsel_mono (ihx st) (ihy st) h
      · rename_i b hx
        rw[hx]
        split at h
        · obtain ⟨hb,h⟩:=h
          exact ⟨fun _=>ihx _ h,fun e=>Bool.noConfusion (e.symm.trans hb)⟩
        · obtain ⟨hb,h⟩:=h
          exact ⟨fun e=>Bool.noConfusion (e.symm.trans hb),fun _=>ihy _ h⟩
        · exact ⟨fun e=>ihx _ (h.1 e),fun e=>ihy _ (h.2 e)⟩
      · exact h.elim
    | const v =>
      cases v with
      | bool b =>
        rw[codeC]at h
        rw[code]
        exact bsel_mono (ihx st) (ihy st) h
      | _=>exact h.elim
    | global _=>exact h.elim
    | func _=>exact h.elim
  | block id c ih =>
    intro st Q h
    rw[codeC,T.wp_bind]at h
    rw[code,T.wp_bind]
    exact ih st h
  | _=>intro st Q h;exact h
def unrollC (O:Opt con) (E:Env P) (L:Loops) (body:Code):List (Tmp→Option Bool)→St→T (Exit×St)
  | [],_=>.fail
  | f::r,st=>(codeC ⟨O.pc,O.cs,f⟩ E L body st).bind fun x=>match r,x.1 with
    | [],.normal=>.fail
    | [],e=>.ret (e,x.2)
    | _::_,.normal=>unrollC O E L body r x.2
    | _::_,_=>.fail
theorem unrollC_ok {O:Opt con} {E:Env P} (hE:E.con=con) {L:Loops} (hm:P.follows .mixedOrders=true) (k:Nat) {body:Code} (hL:LoopsOk P k L body) (fs:List (Tmp→Option Bool)):LoopOk P k body (unrollC O (E.at_ k) L body fs):=by
  intro w0 φ σ0 σ st a w Q hσ hφ hS hrun
  refine wp_loop_ghost (fun n a w => ∃ fs st σ,n=fs.length∧Sat w0 φ σ0 σ st a w∧(unrollC O (E.at_ k) L body fs st).wp Q) fs.length ⟨fs,st,σ,rfl,hS,hrun⟩ fun n a w hI=>?_
  obtain ⟨fs,st,σ,rfl,hS,h⟩:=hI
  cases fs with
  | nil=>exact h.elim
  | cons f r =>
    rw[unrollC,T.wp_bind]at h
    refine wp_mono (code_ok (E:=E.at_ k) hm hσ hσ hφ body _ σ a w _ hL hS (codeC_wp (E:=E.at_ k) hE _ _ h)) fun e a' w' hr=>?_
    obtain ⟨hq,st',σ',h2,h3⟩:=hr
    cases r with
    | nil =>
      cases e with
      | normal=>exact h2.elim
      | panic _=>cases hq
      | outgrown=>cases hq
      | exit id=>exact ⟨rfl,st',σ',h2,h3⟩
      | ret=>exact ⟨rfl,st',σ',h2,h3⟩
      | goto l=>exact ⟨rfl,st',σ',h2,h3⟩
    | cons g r =>
      cases e with
      | normal=>exact ⟨(g::r).length,Nat.lt_succ_self _,g::r,st',σ',rfl,h3,h2⟩
      | panic _=>cases hq
      | outgrown=>cases hq
      | exit id=>exact h2.elim
      | ret=>exact h2.elim
      | goto l=>exact h2.elim
theorem unrollS_ok {O:Opt con} {E:Env P} (hE:E.con=con) {L:Loops} (hm:P.follows .mixedOrders=true) (k:Nat) {body:Code} (hL:LoopsOk P k L body) (g:St→List (Tmp→Option Bool)):LoopOk P k body (fun st=>unrollC O (E.at_ k) L body (g st) st):=by
  intro w0 φ σ0 σ st a w Q h1 h2 h3 h4
  exact unrollC_ok hE hm k hL (g st) w0 φ σ0 σ st a w Q h1 h2 h3 h4
def rowN (st:St) (t:Tmp):Nat:=match st.fr[t]? with
  | some (.one (.ds _ xs))=>xs.length
  | some (.one (.os _ n _))=>n
  | _=>0
def fcs (l:List (Tmp×Bool)):Tmp→Option Bool:=fun k=>match l.find? fun p=>p.1==k with
  | some p=>some p.2
  | none=>none
def rowRounds (t:Tmp) (go last:List (Tmp×Bool)) (st:St):List (Tmp→Option Bool):=List.replicate (rowN st t) (fcs go)++[fcs last]
def fnRunC (O:Opt con) (E:Env P) (L:Loops) (fn:Func) (args:List Av) (m:Mem):T (Av×Mem):=
  match fn.body with
  | some c=>(codeC O (E.at_ m.length) L c ⟨args++List.replicate (fn.ntmps-args.length) .nope,m⟩).bind fun r=>match r.1 with
    | .ret|.normal=>fSt r.2 fun st=>finRun P m.length fn.results.toList st
    | _=>.fail
  | none=>.fail
theorem fnRunC_wp {O:Opt con} {E:Env P} (hE:E.con=con) {L:Loops} {fn:Func} {args:List Av} {m:Mem} {Q:Av×Mem→Prop} (h:(fnRunC O E L fn args m).wp Q):(fnRun E L fn args m).wp Q:=by
  unfold fnRunC at h
  unfold fnRun
  cases hb:fn.body with
  | none=>rw[hb]at h;exact h.elim
  | some c =>
    rw[hb]at h
    simp only[fSt_eq]at h ⊢
    rw[T.wp_bind]at h ⊢
    exact codeC_wp (E:=E.at_ m.length) hE c _ h
def fnPC (O:Opt con) (E:Env P) (L:Loops) (fn:Func) (args:List Av):T Av:=
  (fnRunC O E L fn args []).bind fun r=>match noA r.1 with
    | true=>.ret (nA r.1)
    | false=>.fail
theorem fnPC_wp {O:Opt con} {E:Env P} (hE:E.con=con) {L:Loops} {fn:Func} {args:List Av} {Q:Av→Prop} (h:(fnPC O E L fn args).wp Q):(fnP E L fn args).wp Q:=by
  unfold fnPC at h
  unfold fnP
  rw[T.wp_bind]at h ⊢
  exact fnRunC_wp hE h
def inlRunC (O:Opt con) (E:Env P) (L:Loops) (fn:Func) (K:Nat) (pos:List Nat) (args:List Av) (m:Mem):T (Av×Mem):=
  fAvs args fun args=>fMem m fun m=>fNats (wrOf pos args m) fun I=>match I.all (fun i=>decide (i<m.length))&&nodB I&&decide (I.length≤K) with
  | true=>fAvs (args.map (reA (posOf I) noFz)) fun args'=>fMem (subMem I m) fun m'=>(fnRunC O E L fn args' m').bind fun r=>fMem r.2 fun m1=>fAv (reA (backI I m.length) noFz r.1) fun av=>fMem (backMem I m m1) fun m2=>.ret (av,m2)
  | false=>.fail
theorem inlC_ok {O:Opt con} {E:Env P} (hE:E.con=con) {L:Loops} {f:FuncId} {fn:Func} (hm:P.follows .mixedOrders=true) (hf:P.funcs[f]?=some fn) (K:Nat) (hL : ∀ c,fn.body=some c→LoopsOk P K L c) (pos:List Nat):ConOk P f pos (inlRunC O E L fn K pos):=by
  refine con_weaken (inl_ok (E:=E) (L:=L) hm hf K hL pos) fun args m Q h=>?_
  unfold inlRunC at h
  unfold inlRun
  simp only[fAvs_eq,fAv_eq,fMem_eq,fNats_eq]at h ⊢
  split at h
  · rename_i hI
    try rw[hI]
    simp only[T.wp_bind]at h ⊢
    refine T.wp_mono (fun r hr=>?_) (fnRunC_wp hE h)
    exact ⟨_,hr,fun _ _ _ _ h=>h⟩
  · exact h.elim
theorem fnPC_of {O:Opt con} {E:Env P} (hE:E.con=con) {L:Loops} {fn:Func} {args:List Av} {Q:Av→Prop} {t:T Av} (e:fnPC O E L fn args=t) (h:t.wp Q):(fnP E L fn args).wp Q:=
  fnPC_wp hE (by rw[e];exact h)
theorem val_conC {O:Opt con} {E:Env P} (hE:E.con=con) {L:Loops} {f:FuncId} {fn:Func} (hm:P.follows .mixedOrders=true) (hf:P.funcs[f]?=some fn) (hL : ∀ c,fn.body=some c→LoopsOk P 0 L c) (ts:List (Bool×Cd)) (pre:Els ts→Prop) (F:Els ts→Av)
    (t:Els ts→T Av) (e : ∀ x,fnPC O E L fn (encs ts x)=t x) (h : ∀ x,pre x→(t x).wp (· = F x)):ConOk P f [] (pureRun' ts fun x=>.need (pre x) (.ret (F x))):=
  val_con (E:=E) (L:=L) hm hf hL ts pre F fun x hx=>fnPC_of hE (e x) (h x hx)
theorem con_okC {O:Opt con} {E:Env P} (hE:E.con=con) {L:Loops} {f:FuncId} {fn:Func} (hm:P.follows .mixedOrders=true) (hf:P.funcs[f]?=some fn) (hL : ∀ c,fn.body=some c→LoopsOk P 0 L c) (ts:List (Bool×Cd)) (sp:Els ts→T Av)
    (h : ∀ x Q,(sp x).wp Q → ∃ t,fnPC O E L fn (encs ts x)=t∧t.wp Q):ConOk P f [] (pureRun' ts sp):=
  con_ok (E:=E) (L:=L) hm hf hL ts sp fun x Q hq=>let ⟨_,e,ht⟩:=h x Q hq;fnPC_of hE e ht
end
def zE:(c:Cd)→El c
  | .int _=>(0:Int)
  | .bool=>false
  | .str=>ByteArray.mk #[]
  | .words=>⟨0,Pq.bp_pos 32⟩
  | .unit=>()
  | .pair a b=>(zE a,zE b)
  | .sl _=>[]
  | .ptr c=>zE c
def zU:Cd→List Value
  | .int k=>[.int k 0]
  | .bool=>[.bool false]
  | .str=>[.string (ByteArray.mk #[])]
  | .words=>Pq.am 32 0
  | .unit=>[]
  | .pair a b=>zU a++zU b
  | .sl _=>[.slice none 0 0]
  | .ptr _=>[]
def noPt:Cd→Bool
  | .ptr _=>false
  | .pair a b=>noPt a&&noPt b
  | _=>true
theorem z_is (w:World) (R:Nat→Prop) (σ:List Nat) : ∀ c:Cd,noPt c=true→Is w R σ (ck c (zE c)) (zU c)
  | .int _,_=>.v rfl .nil
  | .bool,_=>.v rfl .nil
  | .str,_=>.v rfl .nil
  | .words,_=>by
    have:Is w R σ [.w ⟨0,Pq.bp_pos 32⟩] (Pq.am 32 0++[]):=.w .nil
    rwa [List.append_nil]at this
  | .unit,_=>.nil
  | .pair a b,h=>by
    rw[noPt,Bool.and_eq_true]at h
    exact (z_is w R σ a h.1).app (z_is w R σ b h.2)
  | .sl _,_=>.dn .nil
  | .ptr _,h=>by cases h
def zOf {P:Program} (ty:TypeId) (c:Cd) (hn:noPt c=true) (h:(match P.info? ty with|some i=>i.zero.map (·.cells)|none=>none)=some (zU c).toArray):Zero P:=⟨ty,ck c (zE c),zU c,h,fun w R σ=>z_is w R σ c hn⟩
inductive BSh where
  | d (c:Cd)
  | r (k:Nat)
abbrev EBs:List BSh→Type
  | []=>Unit
  | .d c::r=>El c×EBs r
  | .r _::r=>EBs r
abbrev EBb:List (TypeId×List BSh)→Type
  | []=>Unit
  | b::r=>EBs b.2×EBb r
abbrev EGs:List (TypeId×Cd)→Type
  | []=>Unit
  | r::l=>Gr (El r.2)×EGs l
structure HSpec where
  n:Nat
  vs:List (Nat×Bool×Cd)
  ps:List (Nat×Nat×Nat)
  bs:List (TypeId×List BSh)
  rs:List (TypeId×Cd)
  sl:List (Nat×Nat)
  ex:Exit→List Nat
  exL:Exit→List (Nat×Nat)
abbrev HSpec.X (sp:HSpec):Type:=Els (vts sp.vs)
abbrev HSpec.Y (sp:HSpec):Type:=EBb sp.bs
abbrev HSpec.G (sp:HSpec):Type:=EGs sp.rs
def rowCks:(rs:List (TypeId×Cd))→EGs rs→Nat→List Ck
  | [],_,_=>[]
  | r::l,g,k=>match g.1 with
    | none=>.v (.slice none 0 0)::rowCks l g.2 k
    | some x=>.os k x.1.length x.2::rowCks l g.2 (k+1)
def rowMems:(rs:List (TypeId×Cd))→EGs rs→Mem
  | [],_=>[]
  | r::l,g=>match g.1 with
    | none=>rowMems l g.2
    | some x=>(r.1,[.row r.2 x.1 x.2])::rowMems l g.2
def mkCells:(shs:List BSh)→EBs shs→List Ck→List Ck
  | [],_,_=>[]
  | .d c::r,y,ex=>ck c y.1++mkCells r y.2 ex
  | .r k::r,y,ex=>ex.getD k .any::mkCells r y ex
def mkBlk:(bs:List (TypeId×List BSh))→EBb bs→List Ck→Mem
  | [],_,_=>[]
  | b::r,y,ex=>(b.1,mkCells b.2 y.1 ex)::mkBlk r y.2 ex
def HSpec.cks (sp:HSpec) (g:sp.G):List Ck:=rowCks sp.rs g sp.bs.length
def rowSl (sl:List (Nat×Nat)) (ex:List Ck):List (Nat×Av):=sl.map fun p=>(p.1,.one (ex.getD p.2 .any))
def HSpec.head (sp:HSpec) (x:sp.X) (y:sp.Y) (g:sp.G):St:=⟨mkFr sp.n (((sp.vs.map (·.1)).zip (encs (vts sp.vs) x)++pList sp.ps)++rowSl sp.sl (sp.cks g)),mkBlk sp.bs y (sp.cks g)++rowMems sp.rs g⟩
def HSpec.exitSt (sp:HSpec) (e:Exit) (avs:List Av) (y:sp.Y) (g:sp.G):St:=⟨mkFr sp.n (((sp.ex e).zip avs++pList sp.ps)++rowSl (sp.exL e) (sp.cks g)),mkBlk sp.bs y (sp.cks g)++rowMems sp.rs g⟩
def decBlk:(shs:List BSh)→List Ck→Option (EBs shs×List (Nat×Ck))
  | [],[]=>some ((),[])
  | .d c::r,cs=>match parse c cs with
    | some (x,cs')=>(match decBlk r cs' with
      | some (y,l)=>some ((x,y),l)
      | none=>none)
    | none=>none
  | .r k::r,c::cs=>match decBlk r cs with
    | some (y,l)=>some (y,(k,c)::l)
    | none=>none
  | _,_=>none
def decBlks:(bs:List (TypeId×List BSh))→Mem→Option (EBb bs×List (Nat×Ck))
  | [],_=>some ((),[])
  | b::r,(t,cs)::m=>match decide (t=b.1),decBlk b.2 cs,decBlks r m with
    | true,some (y,l),some (z,l')=>some ((y,z),l++l')
    | _,_,_=>none
  | _::_,[]=>none
def slCells (fr:List Av):List (Nat×Nat)→Option (List (Nat×Ck))
  | []=>some []
  | (t,k)::r=>match fr[t]?,slCells fr r with
    | some (.one c),some l=>some ((k,c)::l)
    | _,_=>none
def cellOf:List (Nat×Ck)→Nat→Ck
  | [],_=>.any
  | (j,c)::r,k=>match decide (j=k) with
    | true=>c
    | false=>cellOf r k
def rowIxs (l:List (Nat×Ck)):Nat→Nat→List Nat
  | _,0=>[]
  | k,n+1=>match cellOf l k with
    | .os j _ _=>j::rowIxs l (k+1) n
    | _=>rowIxs l (k+1) n
def HSpec.canon (sp:HSpec) (sl:List (Nat×Nat)) (live:List Nat) (st:St):T St:=fSt ⟨blankF (live++(sp.ps.map (·.1)++sl.map (·.1))) st.fr,st.mem⟩ fun st =>
  match slCells st.fr sl,decBlks sp.bs st.mem with
  | some l,some (_,l')=>fNats (List.range sp.bs.length++rowIxs (l++l') 0 sp.rs.length) fun I=>match okI sp.bs.length st.mem.length I with
    | true=>(gcT I st).bind fun st=>fSt st fun st=>.ret st
    | false=>.fail
  | _,_=>.fail
def decRows:(rs:List (TypeId×Cd))→Nat→Nat→List (Nat×Ck)→Mem→Option (EGs rs×List Prop)
  | [],_,_,_,_=>some ((),[])
  | r::rs,k,next,l,m=>match cellOf l k with
    | .v (.slice none 0 0)=>(match decRows rs (k+1) next l m with
      | some (g,p)=>some ((none,g),p)
      | none=>none)
    | .os j n cap=>(match decide (j=next),m[j]? with
      | true,some (ty,[.row c xs cap'])=>(match decide (ty=r.1),castRow c r.2 xs,decRows rs (k+1) (next+1) l m with
        | true,some ys,some (g,p)=>some ((some (ys,cap'),g),(n=ys.length∧cap'=cap)::p)
        | _,_,_=>none)
      | _,_=>none)
    | _=>none
def keysOk (rs:Nat) (l:List (Nat×Ck)):Bool:=nodB (l.map (·.1))&&l.all fun p=>decide (p.1<rs)
def HSpec.rest (sp:HSpec) (sl:List (Nat×Nat)) (st:St):Option (sp.Y×sp.G×List Prop):=
  match decide (st.fr.length=sp.n)&&ptrsOk sp.bs.length st.fr sp.ps,slCells st.fr sl,decBlks sp.bs st.mem with
  | true,some l,some (y,l')=>(match keysOk sp.rs.length (l++l'),decRows sp.rs 0 sp.bs.length (l++l') st.mem with
    | true,some (g,p)=>(match decide (st.mem.length=sp.bs.length+(rowMems sp.rs g).length) with
      | true=>some (y,g,p)
      | false=>none)
    | _,_=>none)
  | _,_,_=>none
def HSpec.dec (sp:HSpec) (st:St):Option (sp.X×sp.Y×sp.G×List Prop):=
  match getsA st.fr (sp.vs.map (·.1)),sp.rest sp.sl st with
  | some l,some (y,g,p)=>(match decs (vts sp.vs) l with
    | some x=>some (x,y,g,p)
    | none=>none)
  | _,_=>none
def HSpec.decE (sp:HSpec) (e:Exit) (st:St):Option (List Av×sp.Y×sp.G×List Prop):=
  match getsA st.fr (sp.ex e),sp.rest (sp.exL e) st with
  | some l,some (y,g,p)=>(match l.all noA with
    | true=>some (l.map nA,y,g,p)
    | false=>none)
  | _,_=>none
section
variable {P:Program} {E:Env P} {L:Loops} {w0 w:World} {φ σ0 σ:List Nat} {st:St} {a:Act}
inductive HRd (sp:HSpec):Type
  | again (x:sp.X) (y:sp.Y) (g:sp.G)
  | out (e:Exit) (avs:List Av) (y:sp.Y) (g:sp.G)
def HSpec.round {P:Program} (sp:HSpec) (E:Env P) (L:Loops) (body:Code) (x:sp.X) (y:sp.Y) (g:sp.G):T (HRd sp):=
  (code (E.at_ sp.bs.length) L body (sp.head x y g)).bind fun r=>match r.1 with
    | .normal=>(sp.canon sp.sl (sp.vs.map (·.1)) r.2).bind fun st=>(match sp.dec st with
      | some (x',y',g',p)=>needAll p (.ret (.again x' y' g'))
      | none=>.fail)
    | e=>(sp.canon (sp.exL e) (sp.ex e) r.2).bind fun st=>(match sp.decE e st with
      | some (avs,y',g',p)=>needAll p (.ret (.out e avs y' g'))
      | none=>.fail)
def HSpec.run (sp:HSpec) (out:sp.X→sp.Y→sp.G→T (Exit×List Av×sp.Y×sp.G)) (st:St):T (Exit×St):=
  (sp.canon sp.sl (sp.vs.map (·.1)) st).bind fun st=>match sp.dec st with
  | some (x,y,g,p)=>needAll p ((out x y g).bind fun r=>.ret (r.1,sp.exitSt r.1 r.2.1 r.2.2.1 r.2.2.2))
  | none=>.fail
end
end Ax
namespace Go.Proofs.YtmcbljjgkmkhcaaGreatDoor
open Go.RowKit Ax
abbrev cP:Cd:=.pair cF cF
abbrev Pt:=El cP
noncomputable def zeroP:Zero Tryz.prog:=⟨36,ck cP ((w0,w0),(w0,w0)),Pq.fl false 0 false 0++Pq.fl false 0 false 0,by kernel_rfl,fun w R σ=>(f_is w R σ (w0,w0)).app (f_is w R σ (w0,w0))⟩
noncomputable def codP:Cod Tryz.prog:=⟨36,cP,by kernel_rfl,⟨.agg (Pq.fl false 0 false 0++Pq.fl false 0 false 0).toArray,fun w=>by kernel_rfl⟩⟩
theorem cf_wline (xs:Array Value) (w:World):(callFunc 137 xs).run Tryz.prog w=.ok (.enter 137 xs) w:=by kernel_rfl
theorem cf_wnum (xs:Array Value) (w:World):(callFunc 94 xs).run Tryz.prog w=.ok (.enter 94 xs) w:=by kernel_rfl
theorem cf_wends (xs:Array Value) (w:World):(callFunc 93 xs).run Tryz.prog w=.ok (.enter 93 xs) w:=by kernel_rfl
theorem cf_wtrow (xs:Array Value) (w:World):(callFunc 91 xs).run Tryz.prog w=.ok (.enter 91 xs) w:=by kernel_rfl
theorem cf_wtab (xs:Array Value) (w:World):(callFunc 90 xs).run Tryz.prog w=.ok (.enter 90 xs) w:=by kernel_rfl
theorem cf_wnodes (xs:Array Value) (w:World):(callFunc 48 xs).run Tryz.prog w=.ok (.enter 48 xs) w:=by kernel_rfl
theorem cf_weles (xs:Array Value) (w:World):(callFunc 49 xs).run Tryz.prog w=.ok (.enter 49 xs) w:=by kernel_rfl
theorem cf_wedges (xs:Array Value) (w:World):(callFunc 50 xs).run Tryz.prog w=.ok (.enter 50 xs) w:=by kernel_rfl
theorem cf_wread (xs:Array Value) (w:World):(callFunc 21 xs).run Tryz.prog w=.ok (.enter 21 xs) w:=by kernel_rfl
theorem cf_wints (xs:Array Value) (w:World):(callFunc 35 xs).run Tryz.prog w=.ok (.enter 35 xs) w:=by kernel_rfl
theorem cf_wrow (xs:Array Value) (w:World):(callFunc 37 xs).run Tryz.prog w=.ok (.enter 37 xs) w:=by kernel_rfl
theorem cf_wNodes (xs:Array Value) (w:World):(callFunc 18 xs).run Tryz.prog w=.ok (.enter 18 xs) w:=by kernel_rfl
theorem cf_wEles (xs:Array Value) (w:World):(callFunc 19 xs).run Tryz.prog w=.ok (.enter 19 xs) w:=by kernel_rfl
theorem cf_wEdges (xs:Array Value) (w:World):(callFunc 20 xs).run Tryz.prog w=.ok (.enter 20 xs) w:=by kernel_rfl
theorem cf_wRounded (xs:Array Value) (w:World):(callFunc 10 xs).run Tryz.prog w=.ok (.enter 10 xs) w:=by kernel_rfl
theorem cf_wjoin (xs:Array Value) (w:World):(callFunc 54 xs).run Tryz.prog w=.ok (.enter 54 xs) w:=by kernel_rfl
theorem cf_wsame (xs:Array Value) (w:World):(callFunc 22 xs).run Tryz.prog w=.ok (.enter 22 xs) w:=by kernel_rfl
theorem wned {β:Type} {p:Prop} {t:T β} {Q:β→Prop} (hp:p) (h:t.wp Q):(T.need p t).wp Q:=⟨hp,h⟩
theorem wget {α β:Type} {l:List α} {i:Int} {K:α→T β} {Q:β→Prop} {v:α} (h0:0≤i) (hv:l[i.toNat]?=some v) (h:(K v).wp Q):(T.get l i K).wp Q:=⟨v,h0,hv,h⟩
theorem witf {β:Type} {c:Bool} {s t:T β} {Q:β→Prop} (hc:c=false) (h:t.wp Q):(T.ite c s t).wp Q:=⟨fun e=>Bool.noConfusion (hc.symm.trans e),fun _=>h⟩
theorem witt {β:Type} {c:Bool} {s t:T β} {Q:β→Prop} (hc:c=true) (h:s.wp Q):(T.ite c s t).wp Q:=⟨fun _=>h,fun e=>Bool.noConfusion (e.symm.trans hc)⟩
noncomputable def con_rparse1:Con Tryz.prog:=⟨92,[],_,cf_rparse,val_con (E:=E16) mixed Tryz.func92 no_loops [(false,.str)] (fun x=>lenOk (ByteArray.size x.1)) (fun x=>ansA true cF ((pR x.1).isSome) ((pR x.1).getD (w0,w0)) (w0,w0)) fun x hx=>by
  rw[tr_rparse_eq]
  exact rparse_ok x hx⟩
abbrev cI3:Cd:=.pair (.int .i64) (.pair (.int .i64) (.int .i64))
abbrev cMesh:Cd:=.pair (.sl cP) (.pair (.sl cI3) (.sl cI3))
abbrev cTab:Cd:=.pair (.sl cL) .bool
noncomputable def codStrW:Cod Tryz.prog:=⟨9,.str,by kernel_rfl,⟨.string (ByteArray.mk #[]),fun w=>by kernel_rfl⟩⟩
noncomputable def codIntW:Cod Tryz.prog:=⟨3,.int .i64,by kernel_rfl,⟨.int .i64 0,fun w=>by kernel_rfl⟩⟩
noncomputable def cod3W:Cod Tryz.prog:=⟨79,cI3,by kernel_rfl,⟨.agg (zU cI3).toArray,fun w=>by kernel_rfl⟩⟩
noncomputable def codEdge:Cod Tryz.prog:=⟨80,cI3,by kernel_rfl,⟨.agg (zU cI3).toArray,fun w=>by kernel_rfl⟩⟩
noncomputable def zeroStrW:Zero Tryz.prog:=zOf 9 .str rfl (by kernel_rfl)
noncomputable def zeroIntW:Zero Tryz.prog:=zOf 3 (.int .i64) rfl (by kernel_rfl)
noncomputable def zero3W:Zero Tryz.prog:=zOf 79 cI3 rfl (by kernel_rfl)
noncomputable def zeroEdge:Zero Tryz.prog:=zOf 80 cI3 rfl (by kernel_rfl)
noncomputable def zeroMesh:Zero Tryz.prog:=zOf 41 cMesh rfl (by kernel_rfl)
noncomputable def zeroText:Zero Tryz.prog:=zOf 147 cTab rfl (by kernel_rfl)
noncomputable def zeroTab:Zero Tryz.prog:=zOf 149 cTab rfl (by kernel_rfl)
noncomputable def EW0:Env Tryz.prog:=⟨con_rparse1::con_llines::con_rlines::con_lint::con_itoa::EZ.con,zeroStrW::zeroIntW::zero3W::zeroEdge::zeroMesh::zeroText::zeroTab::zeroP::EZ.zero,codStrW::codIntW::cod3W::codEdge::codP::EZ.cod,fun _=>false,0,fun _=>[]⟩
def wiv (s:ByteArray):Int:=if lintB s=true then atoiV s else 0
abbrev LLw:=List (Int×List ByteArray)
abbrev WT:=LLw×Bool
def wlOk (n:Int) (t:WT):Bool := !t.2&&(match t.1 with
  | []=>false
  | l::_=>decide ((l.2.length:Int)=n))
def whead (l:LLw):List ByteArray:=match l with
  | []=>[]
  | a::_=>a.2
def wlW (n:Int) (t:WT):List ByteArray:=if wlOk n t=true then whead t.1 else List.replicate n.toNat (ByteArray.mk #[])
def wlT (n:Int) (t:WT):WT:=if wlOk n t=true then (t.1.drop 1,t.2) else (t.1,true)
def wnOk (w:ByteArray) (lo hi:Int):Bool:=lintB w&&decide (lo≤wiv w∧wiv w≤hi)
def wnV (w:ByteArray) (lo hi:Int):Int:=if wnOk w lo hi=true then wiv w else 0
def wnT (w:ByteArray) (lo hi:Int) (t:WT):WT:=(t.1,t.2 || !wnOk w lo hi)
def badW (n:Int) (t:WT):T (Av×WT):=.need (0≤n∧n=n∧16*n.toNat≤281474976710656∧n.toNat≤maxLen) (.need (n.toNat≤(List.replicate n.toNat (zE .str)).length) (.ret (.one (.ds .str (List.take n.toNat (List.replicate n.toNat (zE .str)))),(t.1,true))))
def wlTree (n:Int) (t:WT):T (Av×WT):=.ite t.2 (badW n t) (.ite ((List.length t.1:Int)==0) (badW n t) (.get t.1 0 fun l=>.ite ((List.length l.2:Int) != n) (badW n t) (.get t.1 0 fun l=>.need ((0:Int)≤1∧(1:Int)≤List.length t.1∧(List.length t.1:Int)≤List.length t.1) (.ret (.one (.ds .str l.2),(List.drop (Int.toNat 1) (List.take (Int.toNat (List.length t.1:Int)) t.1),t.2))))))
theorem tr_wline_eq (n:Int) (t:WT):ptr1 EW0 (fun _=>none) Tryz.f137 0 149 cTab t (encs [(false,.int .i64)] (n,()))=wlTree n t:=by kernel_rfl
theorem badW_wp {n:Int} {t:WT} (h:0≤n∧n≤1000) (hb:wlOk n t=false):(badW n t).wp (· = (.one (.ds .str (wlW n t)),wlT n t)):=by
  unfold badW
  have hm:maxLen=9223372036854775807:=rfl
  refine wned ⟨h.1,rfl,by omega,by omega⟩ (wned (by rw[List.length_replicate];exact Nat.le_refl _) ?_)
  show (_,_)=_
  have e:wlW n t=List.take n.toNat (List.replicate n.toNat (zE .str)):=by
    unfold wlW
    rw[hb,if_neg Bool.false_ne_true,List.take_of_length_le (by rw[List.length_replicate];exact Nat.le_refl _)]
    rfl
  have e2:wlT n t=(t.1,true):=by unfold wlT;rw[hb,if_neg Bool.false_ne_true]
  rw[e,e2]
theorem wl_ok {n:Int} {t:WT} (h:0≤n∧n≤1000):(wlTree n t).wp (· = (.one (.ds .str (wlW n t)),wlT n t)):=by
  obtain ⟨l,b⟩:=t
  unfold wlTree
  refine ⟨fun hb=>badW_wp h ?_,fun hb=>⟨fun h0=>badW_wp h ?_,fun h0=>?_⟩⟩
  · have hb:b=true:=hb
    unfold wlOk;rw[hb];rfl
  · cases l with
    | nil=>unfold wlOk;simp
    | cons a r=>simp at h0;omega
  · cases l with
    | nil=>simp at h0
    | cons a r =>
      have hb:b=false:=hb
      subst hb
      refine wget (v:=a) (Int.le_refl 0) rfl ⟨fun h1=>badW_wp h ?_,fun h1=>wget (v:=a) (Int.le_refl 0) rfl (wned ⟨by decide,by simp only[List.length_cons];omega,Int.le_refl _⟩ ?_)⟩
      · have h1:¬ (a.2.length:Int)=n:=by simpa using h1
        unfold wlOk
        simp only[decide_eq_false h1,Bool.and_false]
      · have h1:(a.2.length:Int)=n:=by simpa using h1
        have e:wlOk n (a::r,false)=true:=by
          unfold wlOk
          simp only[decide_eq_true h1,Bool.not_false,Bool.and_true]
        show (_,_)=_
        unfold wlW wlT
        rw[e,if_pos rfl,if_pos rfl,Int.toNat_natCast,List.take_length]
        rfl
noncomputable def con_wline:Con Tryz.prog:=⟨137,[0],_,cf_wline,ptr1_ok (E:=EW0) (L:=fun _=>none) mixed Tryz.func137 no_loops 0 149 cTab [(false,.int .i64)] (fun t x=>.need (0≤x.1∧x.1≤1000) (.ret (.one (.ds .str (wlW x.1 t)),wlT x.1 t))) fun t x Q hq=>by
  obtain ⟨n,u⟩:=x
  have h1:0≤n∧n≤1000:=hq.1
  have hq:=hq.2
  rw[show ptr1 EW0 (fun _=>none) Tryz.f137 0 149 cTab t (encs [(false,.int .i64)] (n,u))=wlTree n t from tr_wline_eq n t]
  exact T.wp_mono (fun r hr=>by rw[hr];exact hq) (wl_ok h1)⟩
def wnBad (t:WT):T (Av×WT):=.ret (.one (.v (.int .i64 0)),(t.1,true))
def wnTree (t:WT) (w:ByteArray) (lo hi:Int):T (Av×WT):=.need (ByteArray.size w≤281474976710656) (.ite (!lintB w) (wnBad t) (.ite (decide (wiv w<lo)) (wnBad t) (.ite (decide (wiv w>hi)) (wnBad t) (.ret (.one (.v (.int .i64 (wiv w))),t)))))
theorem tr_wnum_eq (t:WT) (w:ByteArray) (lo hi:Int):ptr1 EW0 (fun _=>none) Tryz.f94 0 149 cTab t (encs [(false,.str),(false,.int .i64),(false,.int .i64)] (w,lo,hi,()))=wnTree t w lo hi:=by kernel_rfl
theorem wnBad_wp {t:WT} {w:ByteArray} {lo hi:Int} (h:wnOk w lo hi=false):(wnBad t).wp (· = (.one (.v (.int .i64 (wnV w lo hi))),wnT w lo hi t)):=by
  show (_,_)=_
  unfold wnV wnT
  rw[h,if_neg Bool.false_ne_true]
  simp
theorem wn_ok {t:WT} {w:ByteArray} {lo hi:Int} (h:w.size≤281474976710656):(wnTree t w lo hi).wp (· = (.one (.v (.int .i64 (wnV w lo hi))),wnT w lo hi t)):=by
  unfold wnTree
  refine wned h ⟨fun h1=>wnBad_wp ?_,fun h1=>⟨fun h2=>wnBad_wp ?_,fun h2=>⟨fun h3=>wnBad_wp ?_,fun h3=>?_⟩⟩⟩
  · have h1:lintB w=false:=by simpa using h1
    unfold wnOk;rw[h1];rfl
  · have h2:=of_decide_eq_true h2
    unfold wnOk;rw[decide_eq_false (by omega),Bool.and_false]
  · have h3:=of_decide_eq_true h3
    unfold wnOk;rw[decide_eq_false (by omega),Bool.and_false]
  · have h1:lintB w=true:=by simpa using h1
    have h2:=of_decide_eq_false h2
    have h3:=of_decide_eq_false h3
    have e:wnOk w lo hi=true:=by unfold wnOk;rw[h1,decide_eq_true (by omega)];rfl
    show (_,_)=_
    unfold wnV wnT
    rw[e,if_pos rfl]
    simp
noncomputable def con_wnum:Con Tryz.prog:=⟨94,[0],_,cf_wnum,ptr1_ok (E:=EW0) (L:=fun _=>none) mixed Tryz.func94 no_loops 0 149 cTab [(false,.str),(false,.int .i64),(false,.int .i64)] (fun t x=>.need (ByteArray.size x.1≤281474976710656) (.ret (.one (.v (.int .i64 (wnV x.1 x.2.1 x.2.2.1))),wnT x.1 x.2.1 x.2.2.1 t))) fun t x Q hq=>by
  obtain ⟨w,lo,hi,u⟩:=x
  obtain ⟨h1,hq⟩:=hq
  rw[show ptr1 EW0 (fun _=>none) Tryz.f94 0 149 cTab t (encs [(false,.str),(false,.int .i64),(false,.int .i64)] (w,lo,hi,u))=wnTree t w lo hi from tr_wnum_eq t w lo hi]
  exact T.wp_mono (fun r hr=>by rw[hr];exact hq) (wn_ok h1)⟩
def weTree (t:WT):T (Av×WT):=.ite (!t.2) (.ret (.one (.v (.bool ((List.length t.1:Int)==0))),t)) (.ret (.one (.v (.bool false)),t))
theorem tr_wends_eq (t:WT):ptr1 EW0 (fun _=>none) Tryz.f93 0 149 cTab t (encs [] ())=weTree t:=by kernel_rfl
def wendB (t:WT):Bool := !t.2&&t.1.isEmpty
noncomputable def con_wends:Con Tryz.prog:=⟨93,[0],_,cf_wends,ptr1_ok (E:=EW0) (L:=fun _=>none) mixed Tryz.func93 no_loops 0 149 cTab [] (fun t x=>.ret (.one (.v (.bool (wendB t))),t)) fun t x Q hq=>by
  rw[show ptr1 EW0 (fun _=>none) Tryz.f93 0 149 cTab t (encs [] x)=weTree t from tr_wends_eq t]
  obtain ⟨l,b⟩:=t
  have hq:Q (.one (.v (.bool (wendB (l,b)))),(l,b)):=hq
  unfold weTree
  refine ⟨fun h=>?_,fun h=>?_⟩
  · have h:b=false:=by simpa using h
    subst h
    show Q (_,_)
    have e:wendB (l,false)=((l.length:Int)==0):=by
      unfold wendB
      cases l <;> simp
      omega
    rw[e]at hq
    exact hq
  · have h:b=true:=by simpa using h
    subst h
    exact hq⟩
def joinB (xs:List ByteArray) (sep:ByteArray):ByteArray:=⟨(Lib.join (xs.map (·.data.toList)) sep.data.toList).toArray⟩
noncomputable def con_wjoin:Con Tryz.prog:=⟨54,[],pureRun' [(false,.sl .str),(false,.str)] (fun x=>.need (List.length x.1≤1000000∧(joinB x.1 x.2.1).size≤1000000000) (.ret (.one (.v (.string (joinB x.1 x.2.1)))))),cf_wjoin,ret_con _ _ fun x vs w R Q ha hQ=>by
  obtain ⟨v,v',rfl,h1,h2⟩:=args2 ha
  obtain ⟨xs,sep,u⟩:=x
  have e2:v'=.string sep:=val_of h2 rfl
  subst e2
  obtain ⟨⟨k1,k2⟩,hQ⟩:=hQ
  have k2:(Lib.join (xs.map (·.data.toList)) sep.data.toList).length≤1000000000:=k2
  rcases is_ds (c:=.str) (xs:=xs) h1 with ⟨rfl,rfl⟩|⟨rfl,a',cap,rfl⟩|⟨b,of,cap,g,rfl,hc,hR,g1,g2,g3⟩
  · exact ⟨_,_,hQ,(Tryz.strings_Join_none none 0 sep w).mono fun e w' hr=>⟨hr.1,hr.2 ▸ Below.refl _ _⟩,fun _ _=>.val rfl⟩
  · exact ⟨_,_,hQ,(Tryz.strings_Join_none (some a') cap sep w).mono fun e w' hr=>⟨hr.1,hr.2 ▸ Below.refl _ _⟩,fun _ _=>.val rfl⟩
  · have cells : ∀ (j:Nat) (x:ByteArray),xs[j]?=some x→w.cell? ⟨b,of+j,none⟩=some (.string x):=fun j x hj=>by
      obtain ⟨t,e,h⟩:=is_v (g2 j x hj)
      cases h
      have:=g3 j x hj 0 (.string x) (by rw[e];rfl)
      simpa [csz] using this
    cases xs with
    | nil=>exact ⟨_,_,hQ,(Tryz.strings_Join_none (some ⟨b,of,none⟩) cap sep w).mono fun e w' hr=>⟨hr.1,hr.2 ▸ Below.refl _ _⟩,fun _ _=>.val rfl⟩
    | cons y r =>
      have hb:b<w.heap.size:=by
        have:=cells 0 y rfl
        unfold World.cell? at this
        rcases Nat.lt_or_ge b w.heap.size with h|h
        · exact h
        · rw[show w.heap[(⟨b,of+0,none⟩:Addr).block]?=none from Array.getElem?_eq_none h]at this
          cases this
      exact ⟨_,_,hQ,(Tryz.strings_Join b of cap (y::r) sep w cells hb (Nat.le_trans (show (y::r).length≤1000000 from k1) (by decide)) hc (Nat.le_trans k2 (by decide))).mono fun e w' hr=>⟨hr.1,hr.2⟩,fun _ _=>.val rfl⟩⟩
noncomputable def EW1:Env Tryz.prog:=EW0.add [con_wline,con_wnum,con_wends,con_wjoin]
def spB:ByteArray:=⟨#[32]⟩
def rowS (xs:List ByteArray):ByteArray:=joinB xs spB++⟨#[10]⟩
def rwTree (xs:List ByteArray):T Av:=.need (List.length xs≤1000000∧(joinB xs spB).size≤1000000000) (.need (((joinB xs spB).size+ByteArray.size ⟨#[10]⟩:Nat)≤IntKind.max .i64) (.lt (joinB xs spB++⟨#[10]⟩) fun v=>.ret (.one (.v (.string v)))))
theorem tr_wrow_eq (xs:List ByteArray):fnP EW1 (fun _=>none) Tryz.f37 (encs [(false,.sl .str)] (xs,()))=rwTree xs:=by kernel_rfl
noncomputable def con_wrow:Con Tryz.prog:=⟨37,[],_,cf_wrow,val_con (E:=EW1) (L:=fun _=>none) mixed Tryz.func37 no_loops [(false,.sl .str)] (fun x=>List.length x.1≤1000000∧(joinB x.1 spB).size≤1000000000) (fun x=>.one (.v (.string (rowS x.1)))) fun x hx=>by
  obtain ⟨xs,u⟩:=x
  rw[show fnP EW1 (fun _=>none) Tryz.f37 (encs [(false,.sl .str)] (xs,u))=rwTree xs from tr_wrow_eq xs]
  have h2:(joinB xs spB).size≤1000000000:=hx.2
  refine wned hx (wned ?_ rfl)
  show (((joinB xs spB).size+1:Nat):Int)≤9223372036854775807
  omega⟩
noncomputable def EW2:Env Tryz.prog:=EW1.add [con_wrow]
end Go.Proofs.YtmcbljjgkmkhcaaGreatDoor
namespace Ax
open Go Go.RowKit
section
variable {P:Program} {con:List (Con P)}
end
end Ax
namespace Go.Proofs.YtmcbljjgkmkhcaaGreatDoor
open Go.RowKit Ax
def wi1 (i:Int):Int:=IntKind.wrap .i64 (i+1)
theorem wi1_eq {i:Int} (h : -1000000000000≤i∧i≤1000000000000):wi1 i=i+1:=IntWalk.i64_in _ (by omega)
def rwT (t:WT) (i k:Int):T (Av×WT):=.need (0≤wi1 k∧wi1 k≤1000) (.get (wlW (wi1 k) t) 0 fun w=>.need (ByteArray.size w≤281474976710656) (.need ((0:Int)≤1∧(1:Int)≤List.length (wlW (wi1 k) t)∧(List.length (wlW (wi1 k) t):Int)≤List.length (wlW (wi1 k) t)) (.ret (.one (.ds .str (List.drop (Int.toNat 1) (List.take (Int.toNat (List.length (wlW (wi1 k) t):Int)) (wlW (wi1 k) t)))),wnT w (wi1 i) (wi1 i) (wlT (wi1 k) t)))))
theorem tr_wtrow_eq (t:WT) (i k:Int):ptr1 EW2 (fun _=>none) Tryz.f91 0 149 cTab t (encs [(false,.int .i64),(false,.int .i64)] (i,k,()))=rwT t i k:=by kernel_rfl
def wat (l:List ByteArray) (k:Nat):ByteArray:=(l[k]?).getD (ByteArray.mk #[])
def trW (k:Int) (t:WT):List ByteArray:=(wlW (k+1) t).drop 1
def trT (i k:Int) (t:WT):WT:=wnT (wat (wlW (k+1) t) 0) (i+1) (i+1) (wlT (k+1) t)
def WOk (t:WT):Prop := ∀ l∈t.1,∀ w∈l.2,w.size≤900000
theorem wlW_len {n:Int} (h:0≤n) (t:WT):((wlW n t).length:Int)=n:=by
  unfold wlW
  split
  · rename_i e
    unfold wlOk at e
    obtain ⟨l,b⟩:=t
    cases l with
    | nil=>simp at e
    | cons a r =>
      simp at e
      exact e.2
  · rw[List.length_replicate];omega
theorem wlW_ok {n:Int} {t:WT} (h:WOk t) : ∀ w∈wlW n t,w.size≤900000:=by
  intro w hw
  unfold wlW at hw
  split at hw
  · obtain ⟨l,b⟩:=t
    cases l with
    | nil=>cases hw
    | cons a r=>exact h a (by simp) w hw
  · rw[List.eq_of_mem_replicate hw];decide
theorem wlT_ok {n:Int} {t:WT} (h:WOk t):WOk (wlT n t):=by
  unfold wlT
  split
  · exact fun l hl=>h l (List.mem_of_mem_drop hl)
  · exact h
theorem wnT_ok {w:ByteArray} {lo hi:Int} {t:WT} (h:WOk t):WOk (wnT w lo hi t):=h
theorem trT_ok {i k:Int} {t:WT} (h:WOk t):WOk (trT i k t):=wlT_ok h
theorem wat_get {l:List ByteArray} {k:Nat} (h:k<l.length):l[k]?=some (wat l k):=by
  unfold wat
  rw[List.getElem?_eq_getElem h]
  rfl
theorem wat_ok {l:List ByteArray} {k:Nat} (h : ∀ w∈l,w.size≤900000):(wat l k).size≤900000:=by
  unfold wat
  cases e:l[k]? with
  | none=>exact (by decide:(ByteArray.mk #[]).size≤900000)
  | some w=>exact h w (List.mem_of_getElem? e)
theorem trW_len {k:Int} (h:0≤k) (t:WT):((trW k t).length:Int)=k:=by
  have:=wlW_len (n:=k+1) (by omega) t
  unfold trW
  rw[List.length_drop]
  omega
theorem trW_ok {k:Int} {t:WT} (h:WOk t) : ∀ w∈trW k t,w.size≤900000:=fun w hw=>wlW_ok h w (List.mem_of_mem_drop hw)
theorem rwT_wp {t:WT} {i k:Int} (ht:WOk t) (hi:0≤i∧i≤100000) (hk:0≤k∧k≤100):(rwT t i k).wp (· = (.one (.ds .str (trW k t)),trT i k t)):=by
  unfold rwT
  rw[wi1_eq (i:=i) (by omega),wi1_eq (i:=k) (by omega)]
  have hl:=wlW_len (n:=k+1) (by omega) t
  have hg:(wlW (k+1) t)[(0:Int).toNat]?=some (wat (wlW (k+1) t) 0):=wat_get (by omega)
  have hs:=wat_ok (k:=0) (wlW_ok (n:=k+1) ht)
  refine wned (by omega) (wget (Int.le_refl 0) hg (wned (by omega) (wned (by omega) ?_)))
  rw[Int.toNat_natCast,List.take_length]
  rfl
noncomputable def con_wtrow:Con Tryz.prog:=⟨91,[0],_,cf_wtrow,ptr1_ok (E:=EW2) (L:=fun _=>none) mixed Tryz.func91 no_loops 0 149 cTab [(false,.int .i64),(false,.int .i64)] (fun t x=>.need (WOk t∧(0≤x.1∧x.1≤100000)∧(0≤x.2.1∧x.2.1≤100)) (.ret (.one (.ds .str (trW x.2.1 t)),trT x.1 x.2.1 t))) fun t x Q hq=>by
  obtain ⟨i,k,u⟩:=x
  have h1:WOk t∧(0≤i∧i≤100000)∧(0≤k∧k≤100):=hq.1
  have hq:=hq.2
  rw[show ptr1 EW2 (fun _=>none) Tryz.f91 0 149 cTab t (encs [(false,.int .i64),(false,.int .i64)] (i,k,u))=rwT t i k from tr_wtrow_eq t i k]
  exact T.wp_mono (fun r hr=>by rw[hr];exact hq) (rwT_wp h1.1 h1.2.1 h1.2.2)⟩
noncomputable def OTb:Opt EW2.con:=⟨[],[],fun _=>none⟩
noncomputable def unTb:St→T (Exit×St):=fun st=>unrollC OTb (EW2.at_ 0) (fun _=>none) (bodyOf Tryz.f90 0) (rowRounds 30 [(33,true)] [(33,false)] st) st
noncomputable def lpTb:Loops:=oneL 5 unTb
theorem unTb_ok:LoopOk Tryz.prog 0 (bodyOf Tryz.f90 0) unTb:=unrollS_ok (O:=OTb) (E:=EW2) rfl mixed 0 (loops_none _ _ _) _
noncomputable def con_wtab:Con Tryz.prog:=⟨90,[],_,cf_wtab,inlC_ok (O:=OTb) (E:=EW2) (L:=lpTb) rfl mixed Tryz.func90 0 (one_loop unTb_ok (by kernel_rfl)) []⟩
noncomputable def EW3:Env Tryz.prog:=EW2.add [con_wtrow,con_wtab]
abbrev spNd:RSpec:=⟨77,[(5,false,.int .i64),(7,false,.int .i64)],[(4,0,0)],[(149,cTab)],fun _=>[],6,36,cP,false,fun _=>6⟩
abbrev GP:=Gr Pt
def pRV (s:ByteArray):F:=if (pR s).isSome=true then (pR s).getD (w0,w0) else (w0,w0)
def ndEx (t:WT) (g:GP):T (RRd spNd):=.need (gnd (gl g) g) (.ret (.out (Exit.exit 0) [] (t,()) g))
def ndK (n i:Int) (t:WT) (g:GP) (a b:ByteArray) (bad:Bool):T (RRd spNd):=appG 527 g (pRV a,pRV b) fun m g'=>.need (gnd m g') (.ret (.again (n,wi1 i,()) ((t.1,bad),()) g'))
def ndT (n i:Int) (t:WT) (g:GP) (a b:ByteArray):T (RRd spNd):=.ite t.2 (ndK n i t g a b true) (.ite (!(pR a).isSome) (ndK n i t g a b true) (ndK n i t g a b (!(pR b).isSome)))
def ndB (n i:Int) (t:WT) (g:GP):T (RRd spNd):=.need (WOk t∧(0≤i∧i≤100000)∧(0≤(2:Int)∧(2:Int)≤100)) (.get (trW 2 t) 0 fun a=>.need (lenOk (ByteArray.size a)) (.get (trW 2 t) 1 fun b=>.need (lenOk (ByteArray.size b)) (ndT n i (trT i 2 t) g a b)))
def ndR (n i:Int) (t:WT) (g:GP):T (RRd spNd):=.ite (decide (i<n)) (.ite (!t.2) (ndB n i t g) (ndEx t g)) (ndEx t g)
theorem tr_ndL_eq (n i:Int) (t:WT) (xs:List Pt) (cap:Nat):RSpec.round spNd EW3 (fun _=>none) (bodyOf Tryz.f48 0) (n,i,()) (t,()) (some (xs,cap))=ndR n i t (some (xs,cap)):=by kernel_rfl
theorem tr_ndL0_eq (n i:Int) (t:WT):RSpec.round spNd EW3 (fun _=>none) (bodyOf Tryz.f48 0) (n,i,()) (t,()) none=ndR n i t none:=by kernel_rfl
def tbGo {α:Type} (f:Int→WT→α×WT):Nat→Int→WT→List α×WT
  | 0,_,t=>([],t)
  | k+1,i,t=>if t.2=true then ([],t) else ((f i t).1::(tbGo f k (i+1) (f i t).2).1,(tbGo f k (i+1) (f i t).2).2)
def ndF (i:Int) (t:WT):Pt×WT:=((pRV (wat (trW 2 t) 0),pRV (wat (trW 2 t) 1)),((trT i 2 t).1,(trT i 2 t).2||(!(pR (wat (trW 2 t) 0)).isSome || !(pR (wat (trW 2 t) 1)).isSome)))
abbrev TbInv (n i:Int) (t:WT) (m:Nat):Prop:=n≤4000∧0≤i∧WOk t∧(m:Int)≤i
def outNd (x:RSpec.X spNd) (y:RSpec.Y spNd) (g:RSpec.G spNd):T (Exit×List Av×RSpec.Y spNd×RSpec.G spNd):=
  .need (TbInv x.1 x.2.1 y.1 (gl (α:=Pt) g)) (finG (Exit.exit 0) [] ((tbGo ndF (x.1-x.2.1).toNat x.2.1 y.1).2,()) g (tbGo ndF (x.1-x.2.1).toNat x.2.1 y.1).1)
theorem tbGo_end {α:Type} (f:Int→WT→α×WT) {n i:Int} {t:WT} (h:¬ i<n∨t.2=true):tbGo f (n-i).toNat i t=([],t):=by
  rcases h with h|h
  · rw[show (n-i).toNat=0 by omega];rfl
  · cases (n-i).toNat with
    | zero=>rfl
    | succ k=>rw[tbGo,if_pos h]
theorem tbGo_next {α:Type} (f:Int→WT→α×WT) {n i:Int} {t:WT} (h:i<n) (hb:t.2=false):tbGo f (n-i).toNat i t=((f i t).1::(tbGo f (n-(i+1)).toNat (i+1) (f i t).2).1,(tbGo f (n-(i+1)).toNat (i+1) (f i t).2).2):=by
  rw[show (n-i).toNat=(n-(i+1)).toNat+1 by omega,tbGo,if_neg (by rw[hb];exact Bool.false_ne_true)]
theorem nd_core (n i : Int) (t : WT) (g : GP) (Q : Exit × List Av × RSpec.Y spNd × RSpec.G spNd → Prop) (hq : (outNd (n, i, ()) (t, ()) g).wp Q) : (ndR n i t g).wp fun r => match r with
      | .again x' y' g'=>(x'.1-x'.2.1).toNat<(n-i).toNat∧(outNd x' y' g').wp Q
      | .out e avs y' g'=>Q (e,avs,y',g'):=by
  obtain ⟨⟨hn,i0,ht,hg⟩,hq⟩:=hq
  have hn:n≤4000:=hn
  have i0:0≤i:=i0
  have ht:WOk t:=ht
  have hg:((gl g:Nat):Int)≤i:=hg
  have hq:(finG (Exit.exit 0) [] ((tbGo ndF (n-i).toNat i t).2,()) g (tbGo ndF (n-i).toNat i t).1).wp Q:=hq
  have ex:(¬ i<n∨t.2=true)→(ndEx t g).wp fun r=>match r with
      | .again x' y' g'=>(x'.1-x'.2.1).toNat<(n-i).toNat∧(outNd x' y' g').wp Q
      | .out e avs y' g'=>Q (e,avs,y',g'):=fun h=>by
    rw[tbGo_end ndF h]at hq
    exact wned (gnd_gl g) (finG_nil hq)
  refine ⟨fun hlt=>⟨fun hb=>?_,fun hb=>ex (.inr (by simpa using hb))⟩,fun hge=>ex (.inl (of_decide_eq_false hge))⟩
  have hlt:=of_decide_eq_true hlt
  have hb:t.2=false:=by simpa using hb
  rw[tbGo_next ndF hlt hb]at hq
  have hl:=trW_len (k:=2) (by decide) t
  have hs:=fun k=>wat_ok (k:=k) (trW_ok (k:=2) ht)
  have s0:=hs 0
  have s1:=hs 1
  unfold ndB
  refine wned ⟨ht,⟨i0,by omega⟩,by decide⟩ (wget (Int.le_refl 0) (wat_get (k:=0) (by omega)) (wned (by unfold lenOk;omega) (wget (by decide) (wat_get (k:=1) (by omega)) (wned (by unfold lenOk;omega) ?_))))
  have K : ∀ bad:Bool,((trT i 2 t).2||(!(pR (wat (trW 2 t) 0)).isSome || !(pR (wat (trW 2 t) 1)).isSome))=bad→(ndK n i (trT i 2 t) g (wat (trW 2 t) 0) (wat (trW 2 t) 1) bad).wp fun r=>match r with
      | .again x' y' g'=>(x'.1-x'.2.1).toNat<(n-i).toNat∧(outNd x' y' g').wp Q
      | .out e avs y' g'=>Q (e,avs,y',g'):=fun bad hbad=>by
    unfold ndK
    have hm:maxLen=9223372036854775807:=rfl
    refine appG_wp (by omega) (by omega) fun k=>wned (gnd_app g _ k) ?_
    rw[wi1_eq (i:=i) (by omega)]
    have ef:ndF i t=((pRV (wat (trW 2 t) 0),pRV (wat (trW 2 t) 1)),((trT i 2 t).1,bad)):=by unfold ndF;rw[hbad]
    rw[ef]at hq
    refine ⟨show (n-(i+1)).toNat<(n-i).toNat by omega,wned ⟨hn,show 0≤i+1 by omega,trT_ok (i:=i) (k:=2) ht,?_⟩ (finG_cons hq k)⟩
    show (((gx g++[_]).length:Nat):Int)≤i+1
    rw[List.length_append,←gl_eq]
    simp only[List.length_cons,List.length_nil]
    omega
  refine ⟨fun h=>K true (by rw[show (trT i 2 t).2=true from h];rfl),fun h=>⟨fun h2=>K true (by rw[h2];simp),fun h2=>K _ (by rw[show (trT i 2 t).2=false from h,h2];simp)⟩⟩
theorem ndL_ok:LoopOk Tryz.prog 0 (bodyOf Tryz.f48 0) (spNd.run outNd):=
  loopR_ok (E:=EW3) (L:=fun _=>none) mixed 0 (loops_none _ _ _) spNd (Nat.zero_le _) outNd (fun x _ _=>(x.1-x.2.1).toNat) (by
    rintro ⟨n,i,⟨⟩⟩ ⟨t,⟨⟩⟩ g Q hq
    match g,hq with
    | some (xs,cap),hq =>
      rw[tr_ndL_eq n i t xs cap]
      exact nd_core n i t (some (xs,cap)) Q hq
    | none,hq =>
      rw[tr_ndL0_eq n i t]
      exact nd_core n i t none Q hq)
noncomputable def lpNd:Loops:=oneL 4 (spNd.run outNd)
def wordU (w:List UInt8):Prop:=w≠[] ∧ ∀ c∈w,c≠10∧c≠35∧bl c=false
def inter:List (List UInt8)→List UInt8
  | []=>[]
  | [w]=>w
  | w::x::r=>w++32::inter (x::r)
def rowU (ws:List (List UInt8)):List UInt8:=inter ws++[10]
theorem inter_join : ∀ ws:List (List UInt8),Lib.join ws [32]=inter ws
  | []=>rfl
  | [w]=>by simp[Lib.join,inter,List.intercalate]
  | w::x::r=>by
    have ih:=inter_join (x::r)
    unfold Lib.join at ih ⊢
    rw[inter,←ih]
    simp[List.intercalate,List.intersperse]
theorem bl_32:bl 32=true:=by decide
theorem w_fgo_nil (cur:List UInt8):fgo cur []=(if cur=[] then [] else [cur]):=rfl
theorem w_fgo_cons (cur r:List UInt8) (h:cur≠[]):fgo cur (32::r)=cur::fgo [] r:=by
  rw[fgo,if_pos bl_32,if_neg h]
theorem fgo_inter : ∀ ws:List (List UInt8),(∀ w∈ws,wordU w)→fgo [] (inter ws)=ws
  | [],_=>rfl
  | [w],h=>by
    obtain ⟨h1,h2⟩:=h w (by simp)
    have e:=fgo_run w [] [] (fun c hc=>(h2 c hc).2.2)
    rw[List.append_nil]at e
    rw[inter,e,List.nil_append,w_fgo_nil,if_neg h1]
  | w::x::r,h=>by
    obtain ⟨h1,h2⟩:=h w (by simp)
    rw[inter,fgo_run w [] _ (fun c hc=>(h2 c hc).2.2),List.nil_append,w_fgo_cons _ _ h1,fgo_inter (x::r) (fun y hy=>h y (by simp at hy ⊢;exact .inr hy))]
theorem inter_no : ∀ ws:List (List UInt8),(∀ w∈ws,wordU w) → ∀ c∈inter ws,c≠10∧c≠35
  | [],_,c,hc=>by cases hc
  | [w],h,c,hc=>by
    have:=(h w (by simp)).2 c hc
    exact ⟨this.1,this.2.1⟩
  | w::x::r,h,c,hc=>by
    rw[inter]at hc
    rcases List.mem_append.1 hc with hc|hc
    · have:=(h w (by simp)).2 c hc
      exact ⟨this.1,this.2.1⟩
    · rcases List.mem_cons.1 hc with rfl|hc
      · decide
      · exact inter_no (x::r) (fun y hy=>h y (by simp at hy ⊢;exact .inr hy)) c hc
theorem tw_all : ∀ (l:List UInt8),(∀ c∈l,c≠35)→l.takeWhile (· != 35)=l
  | [],_=>rfl
  | c::r,h=>by
    rw[List.takeWhile_cons,if_pos (by simpa using h c (by simp)),tw_all r (fun d hd=>h d (by simp[hd]))]
theorem words_inter (ws:List (List UInt8)) (h : ∀ w∈ws,wordU w):wordsB (inter ws)=ws.map mkB:=by
  unfold wordsB
  rw[tw_all _ (fun c hc=>(inter_no ws h c hc).2),fgo_inter ws h]
theorem lf_line : ∀ (l cur r:List UInt8) (n:Int),(∀ c∈l,c≠10)→lf cur (l++10::r) n=one1 (cur++l) n++lf [] r (n+1)
  | [],cur,r,n,_=>by rw[List.nil_append,lf,if_pos rfl,List.append_nil]
  | c::l,cur,r,n,h=>by
    rw[List.cons_append,lf,if_neg (h c (by simp)),lf_line l (cur++[c]) r n (fun d hd=>h d (by simp[hd]))]
    simp
theorem lf_row (ws:List (List UInt8)) (hn:ws≠[]) (h : ∀ w∈ws,wordU w) (r:List UInt8) (n:Int):lf [] (rowU ws++r) n=(n+1,ws.map mkB)::lf [] r (n+1):=by
  unfold rowU
  rw[List.append_assoc,List.singleton_append,lf_line _ _ _ _ (fun c hc=>(inter_no ws h c hc).1),List.nil_append]
  unfold one1
  rw[words_inter ws h,if_pos (by cases ws with|nil=>exact absurd rfl hn|cons a b=>simp)]
  rfl
def rowsU:List (List (List UInt8))→List UInt8
  | []=>[]
  | r::l=>rowU r++rowsU l
def rowsL:List (List (List UInt8))→Int→List (Int×List ByteArray)
  | [],_=>[]
  | r::l,n=>(n+1,r.map mkB)::rowsL l (n+1)
theorem lf_rows : ∀ (l:List (List (List UInt8))) (n:Int),(∀ ws∈l,ws≠[] ∧ ∀ w∈ws,wordU w)→lf [] (rowsU l) n=rowsL l n
  | [],n,_=>rfl
  | r::l,n,h=>by
    obtain ⟨h1,h2⟩:=h r (by simp)
    rw[rowsU,lf_row r h1 h2,lf_rows l (n+1) (fun ws hw=>h ws (by simp[hw]))]
    rfl
theorem linesOf_rows (l:List (List (List UInt8))) (h : ∀ ws∈l,ws≠[] ∧ ∀ w∈ws,wordU w) (s:ByteArray) (hs:s.data.toList=rowsU l):linesOf s=rowsL l 0:=by
  rw[linesOf_lf,hs,lf_rows l 0 h]
theorem fgo_word : ∀ (l cur:List UInt8),∀ w∈fgo cur l,w.length≤cur.length+l.length
  | [],cur,w,h=>by
    rw[fgo]at h
    split at h
    · cases h
    · rw[List.mem_singleton]at h;subst h;simp
  | c::r,cur,w,h=>by
    rw[fgo]at h
    split at h
    · split at h
      · have:=fgo_word r [] w h;simp at this ⊢;omega
      · rcases List.mem_cons.1 h with rfl|h
        · simp
        · have:=fgo_word r [] w h;simp at this ⊢;omega
    · have:=fgo_word r (cur++[c]) w h;simp at this ⊢;omega
theorem wordsB_size (l:List UInt8) : ∀ w∈wordsB l,w.size≤l.length:=by
  intro w hw
  unfold wordsB at hw
  obtain ⟨u,hu,rfl⟩:=List.mem_map.1 hw
  have h:=fgo_word _ [] u hu
  have:=(List.takeWhile_prefix (p:=(· != 35)) (l:=l)).length_le
  show u.toArray.size≤_
  simp at h ⊢;omega
theorem lf_size : ∀ (l cur:List UInt8) (n:Int),∀ e∈lf cur l n,∀ w∈e.2,w.size≤cur.length+l.length
  | [],cur,n,e,he,w,hw=>by
    rw[lf,one1]at he
    split at he
    · rw[List.mem_singleton]at he;subst he
      have:=wordsB_size cur w hw;simpa using this
    · cases he
  | c::r,cur,n,e,he,w,hw=>by
    rw[lf]at he
    split at he
    · rcases List.mem_append.1 he with he|he
      · unfold one1 at he
        split at he
        · rw[List.mem_singleton]at he;subst he
          have:=wordsB_size cur w hw;simp;omega
        · cases he
      · have:=lf_size r [] (n+1) e he w hw;simp at this ⊢;omega
    · have:=lf_size r (cur++[c]) n e he w hw;simp at this ⊢;omega
theorem lines_size (s:ByteArray) : ∀ e∈linesOf s,∀ w∈e.2,w.size≤s.size:=by
  intro e he w hw
  rw[linesOf_lf]at he
  have:=lf_size _ [] 0 e he w hw
  rw[←Lib.size_eq]at this
  simpa using this
def hdT {β:Type} (W:List ByteArray) (l:List Int):List Int→Int→WT→(WT→T β)→T β
  | [],i,t,K=>.need (decide (i<(List.length l:Int))=false) (K t)
  | _::r,i,t,K=>.need (decide (i<(List.length l:Int))=true) (.get l i fun h=>.get W (wi1 i) fun w=>.need (ByteArray.size w≤281474976710656) (hdT W l r (wi1 i) (wnT w h h t) K))
def tbT {β:Type} (s:ByteArray) (hd:List Int) (K:Int→WT→T β):T β:=.need (LinesFit s) (.need (0≤wi1 (List.length hd:Int)∧wi1 (List.length hd:Int)≤1000) (.get (wlW (wi1 (List.length hd:Int)) (linesOf s,false)) 0 fun w=>.need (ByteArray.size w≤281474976710656)
   (hdT (wlW (wi1 (List.length hd:Int)) (linesOf s,false)) hd hd 0 (wnT w 0 4000 (wlT (wi1 (List.length hd:Int)) (linesOf s,false))) fun t=>.ite t.2 (K 0 t) (K (wnV w 0 4000) t))))
def hdGo (W:List ByteArray):List Int→Nat→WT→WT
  | [],_,t=>t
  | h::r,k,t=>hdGo W r (k+1) (wnT (wat W k) h h t)
def tabW (s:ByteArray) (hd:List Int):List ByteArray:=wlW ((hd.length:Int)+1) (linesOf s,false)
def tabT (s:ByteArray) (hd:List Int):WT:=hdGo (tabW s hd) hd 1 (wnT (wat (tabW s hd) 0) 0 4000 (wlT ((hd.length:Int)+1) (linesOf s,false)))
def tabN (s:ByteArray) (hd:List Int):Int:=if (tabT s hd).2=true then 0 else wnV (wat (tabW s hd) 0) 0 4000
theorem wOk_lines {s:ByteArray} (h:s.size≤900000):WOk (linesOf s,false):=fun l hl w hw=>Nat.le_trans (lines_size s l hl w hw) h
theorem hdGo_ok {W:List ByteArray} : ∀ (l:List Int) (k:Nat) (t:WT),WOk t→WOk (hdGo W l k t)
  | [],_,_,h=>h
  | _::r,k,t,h=>hdGo_ok r (k+1) _ (wnT_ok h)
theorem tabT_ok {s:ByteArray} {hd:List Int} (h:s.size≤900000):WOk (tabT s hd):=hdGo_ok _ _ _ (wnT_ok (wlT_ok (wOk_lines h)))
theorem wnV_in {w:ByteArray} {lo hi:Int} (h0:lo≤0) (h:0≤hi):lo≤wnV w lo hi∧wnV w lo hi≤hi:=by
  unfold wnV
  split
  · rename_i e
    unfold wnOk at e
    rw[Bool.and_eq_true]at e
    exact of_decide_eq_true e.2
  · omega
theorem tabN_in (s:ByteArray) (hd:List Int):0≤tabN s hd∧tabN s hd≤4000:=by
  unfold tabN
  split
  · omega
  · exact wnV_in (Int.le_refl 0) (by decide)
theorem hdT_wp {β:Type} {W:List ByteArray} {l:List Int} (hW:(W.length:Int)=l.length+1) (hl:l.length≤10) (hs : ∀ w∈W,w.size≤900000) {K:WT→T β} {Q:β→Prop} : ∀ (r:List Int) (k:Nat) (t:WT),l.drop k=r→k≤l.length→(K (hdGo W r (k+1) t)).wp Q→(hdT W l r (k:Int) t K).wp Q
  | [],k,t,h,hk,hK=>by
    have:=congrArg List.length h
    rw[List.length_drop,List.length_nil]at this
    exact wned (decide_eq_false (by omega)) hK
  | a::r,k,t,h,hk,hK=>by
    have hlt:=congrArg List.length h
    rw[List.length_drop,List.length_cons]at hlt
    have hka:k<l.length:=by omega
    have hg:l[(k:Int).toNat]?=some a:=by
      rw[Int.toNat_natCast,←List.head?_drop,h];rfl
    have hr:l.drop (k+1)=r:=by
      rw[←List.tail_drop,h];rfl
    rw[hdT]
    refine wned (decide_eq_true (by omega)) (wget (by omega) hg ?_)
    rw[wi1_eq (i:=(k:Int)) (by omega)]
    refine wget (v:=wat W (k+1)) (by omega) (by rw[show ((k:Int)+1).toNat=k+1 by omega];exact wat_get (by omega)) (wned (by have:=wat_ok (k:=k+1) hs;omega) ?_)
    have:=hdT_wp hW hl hs (K:=K) (Q:=Q) r (k+1) (wnT (wat W (k+1)) a a t) hr hka hK
    exact this
theorem tbT_wp {β:Type} {s:ByteArray} {hd:List Int} {K:Int→WT→T β} {Q:β→Prop} (hs:s.size≤900000) (hl:hd.length≤10) (h:(K (tabN s hd) (tabT s hd)).wp Q):(tbT s hd K).wp Q:=by
  unfold tbT
  rw[wi1_eq (i:=(hd.length:Int)) (by omega)]
  have hW:=wlW_len (n:=(hd.length:Int)+1) (by omega) (linesOf s,false)
  have hz:=wlW_ok (n:=(hd.length:Int)+1) (wOk_lines hs)
  have h0:=wat_ok (k:=0) hz
  refine wned (fit_of s hs) (wned (by omega) (wget (v:=wat (tabW s hd) 0) (Int.le_refl 0) (wat_get (by omega)) (wned (by unfold tabW;omega) ?_)))
  refine hdT_wp hW hl hz hd 0 _ rfl (Nat.zero_le _) ?_
  unfold tabN tabT tabW at h
  unfold tabW
  refine ⟨fun e=>?_,fun e=>?_⟩
  · rw[if_pos e]at h;exact h
  · rw[if_neg (by rw[show (hdGo (wlW ((hd.length:Int)+1) (linesOf s,false)) hd 1 (wnT (wat (wlW ((hd.length:Int)+1) (linesOf s,false)) 0) 0 4000 (wlT ((hd.length:Int)+1) (linesOf s,false)))).2=false from e];exact Bool.false_ne_true)]at h;exact h
def tbFin (c:Cd) (l:List (El c)) (t:WT):T Av:=.ite l.isEmpty (.ret (.tup [.one (.v (.slice none 0 0)),.one (.v (.bool (wendB t)))])) (.up 0 fun _=>.need (List.length l≤List.length l) (.ret (.tup [.one (.ds c (List.take (List.length l) l)),.one (.v (.bool (wendB t)))])))
theorem tbFin_wp (c:Cd) (l:List (El c)) (t:WT):(tbFin c l t).wp fun a => ∀ w R σ v,AvIs w R σ a v→AvIs w R σ (.tup [.one (.ds c l),.one (.v (.bool (wendB t)))]) v:=by
  refine ⟨fun h w R σ v hv=>?_,fun _ k _=>wned (Nat.le_refl _) fun w R σ v hv=>?_⟩
  · rw[List.isEmpty_iff.1 h];exact nil_av2L hv
  · rwa [List.take_length]at hv
def ndTree (s:ByteArray):T Av:=tbT s [2,0,0] fun n t=>.need True (.need (TbInv n 0 t (gl (none:GP))) (tbFin cP (tbGo ndF (n-0).toNat 0 t).1 (tbGo ndF (n-0).toNat 0 t).2))
theorem tr_nodes_eq (s:ByteArray):fnP EW3 lpNd Tryz.f48 (encs [(false,.str)] (s,()))=ndTree s:=by kernel_rfl
def nodesR (s:ByteArray):List Pt×WT:=tbGo ndF (tabN s [2,0,0]).toNat 0 (tabT s [2,0,0])
noncomputable def con_wnodes:Con Tryz.prog:=⟨48,[],_,cf_wnodes,val_con_wL (E:=EW3) (L:=lpNd) mixed Tryz.func48 (one_loop ndL_ok (by kernel_rfl)) [(false,.str)] (fun x=>ByteArray.size x.1≤900000) (fun x=>.tup [.one (.ds cP (nodesR x.1).1),.one (.v (.bool (wendB (nodesR x.1).2)))]) fun x hx=>by
  obtain ⟨s,u⟩:=x
  have hx:s.size≤900000:=hx
  rw[show fnP EW3 lpNd Tryz.f48 (encs [(false,.str)] (s,u))=ndTree s from tr_nodes_eq s]
  refine tbT_wp hx (by decide) (wned trivial (wned ⟨(tabN_in s _).2,Int.le_refl 0,tabT_ok hx,Int.le_refl 0⟩ ?_))
  rw[Int.sub_zero]
  exact tbFin_wp cP _ _⟩
abbrev spEl:RSpec:=⟨60,[(1,false,.int .i64),(7,false,.int .i64),(9,false,.int .i64)],[(6,0,0)],[(149,cTab)],fun _=>[],8,79,cI3,false,fun _=>8⟩
abbrev G3:=Gr (El cI3)
noncomputable def OEl:Opt EW3.con:=⟨[],[],fun _=>none⟩
noncomputable def unEl:St→T (Exit×St):=unrollC OEl (EW3.at_ 0) (fun _=>none) (innerOf (bodyOf Tryz.f49 0) 0) [fcs [(36,true)],fcs [(36,true)],fcs [(36,true)],fcs [(36,false)]]
noncomputable def lpElI:Loops:=manyL [(9,unEl)]
def elEx (t:WT) (g:G3):T (RRd spEl):=.need (gnd (gl g) g) (.ret (.out (Exit.exit 0) [] (t,()) g))
def elK (m n i:Int) (t:WT) (g:G3) (a b c:Int):T (RRd spEl):=appG 23 g (a,b,c) fun k g'=>.need (gnd k g') (.ret (.again (m,n,wi1 i,()) (t,()) g'))
abbrev I3:=Int×Int×Int
def elS {β:Type} (j v:Int) (x:I3) (K:I3→T β):T β:=.ite (j==((0:Nat):Int)) (K (v,x.2.1,x.2.2)) (.ite (j==((1:Nat):Int)) (K (x.1,v,x.2.2)) (K (x.1,x.2.1,v)))
def elN {β:Type} (W:List ByteArray) (j m:Int) (x:I3) (t:WT) (K:I3→WT→T β):T β:=.need (decide (j<3)=true) (.get W j fun w=>.need (ByteArray.size w≤281474976710656) (.need (0≤j∧j<3) (elS j (IntKind.wrap .i64 (wnV w 1 m-1)) x fun x=>K x (wnT w 1 m t))))
def elB (m n i:Int) (t:WT) (g:G3):T (RRd spEl):=.need (WOk t∧(0≤i∧i≤100000)∧(0≤(3:Int)∧(3:Int)≤100)) (elN (trW 3 t) 0 m (0,0,0) (trT i 3 t) fun x t1=>elN (trW 3 t) (wi1 0) m x t1 fun x t2=>elN (trW 3 t) (wi1 (wi1 0)) m x t2 fun x t3=>.need (decide (wi1 (wi1 (wi1 0))<3)=false) (elK m n i t3 g x.1 x.2.1 x.2.2))
def elR (m n i:Int) (t:WT) (g:G3):T (RRd spEl):=.ite (decide (i<n)) (.ite (!t.2) (elB m n i t g) (elEx t g)) (elEx t g)
theorem unEl_ok:LoopOk Tryz.prog 0 (innerOf (bodyOf Tryz.f49 0) 0) unEl:=unrollC_ok (O:=OEl) (E:=EW3) rfl mixed 0 (loops_none _ _ _) _
theorem tr_elL_eq (m n i:Int) (t:WT) (xs:List (El cI3)) (cap:Nat):RSpec.round spEl EW3 lpElI (bodyOf Tryz.f49 0) (m,n,i,()) (t,()) (some (xs,cap))=elR m n i t (some (xs,cap)):=by kernel_rfl
theorem tr_elL0_eq (m n i:Int) (t:WT):RSpec.round spEl EW3 lpElI (bodyOf Tryz.f49 0) (m,n,i,()) (t,()) none=elR m n i t none:=by kernel_rfl
theorem elS_wp {β:Type} {j v:Int} {x:I3} {K:I3→T β} {Q:β→Prop} {y:I3} (hj:0≤j∧j<3) (e:y=if j=0 then (v,x.2.1,x.2.2) else if j=1 then (x.1,v,x.2.2) else (x.1,x.2.1,v)) (h:(K y).wp Q):(elS j v x K).wp Q:=by
  subst e
  refine ⟨fun h0=>?_,fun h0=>⟨fun h1=>?_,fun h1=>?_⟩⟩
  · have h0:j=0:=by simpa using h0
    rw[if_pos h0]at h;exact h
  · have h0:¬ j=0:=by simpa using h0
    have h1:j=1:=by simpa using h1
    rw[if_neg h0,if_pos h1]at h;exact h
  · have h0:¬ j=0:=by simpa using h0
    have h1:¬ j=1:=by simpa using h1
    rw[if_neg h0,if_neg h1]at h;exact h
def wv1 (w:ByteArray) (m:Int):Int:=wnV w 1 m-1
def elF (m i:Int) (t:WT):I3×WT:=((wv1 (wat (trW 3 t) 0) m,wv1 (wat (trW 3 t) 1) m,wv1 (wat (trW 3 t) 2) m),wnT (wat (trW 3 t) 2) 1 m (wnT (wat (trW 3 t) 1) 1 m (wnT (wat (trW 3 t) 0) 1 m (trT i 3 t))))
theorem wv1_wrap {w:ByteArray} {m:Int} (hm:0≤m∧m≤100000):IntKind.wrap .i64 (wnV w 1 m-1)=wv1 w m:=by
  have:0≤wnV w 1 m∧wnV w 1 m≤100000:=by
    unfold wnV
    split
    · rename_i e
      unfold wnOk at e
      rw[Bool.and_eq_true]at e
      have:=of_decide_eq_true e.2
      omega
    · omega
  exact IntWalk.i64_in _ (by omega)
theorem elN_wp {β:Type} {W:List ByteArray} {j m:Int} {x y:I3} {t:WT} {K:I3→WT→T β} {Q:β→Prop} (hW:(W.length:Int)=3) (hs : ∀ w∈W,w.size≤900000) (hm:0≤m∧m≤100000) (hj:0≤j∧j<3)
    (e:y=if j=0 then (wv1 (wat W j.toNat) m,x.2.1,x.2.2) else if j=1 then (x.1,wv1 (wat W j.toNat) m,x.2.2) else (x.1,x.2.1,wv1 (wat W j.toNat) m)) (h:(K y (wnT (wat W j.toNat) 1 m t)).wp Q):(elN W j m x t K).wp Q:=by
  have:=wat_ok (k:=j.toNat) hs
  refine wned (decide_eq_true hj.2) (wget hj.1 (wat_get (by omega)) (wned (by omega) (wned hj (elS_wp hj ?_ h))))
  rw[wv1_wrap hm]
  exact e
def outEl (x:RSpec.X spEl) (y:RSpec.Y spEl) (g:RSpec.G spEl):T (Exit×List Av×RSpec.Y spEl×RSpec.G spEl):=
  .need (TbInv x.2.1 x.2.2.1 y.1 (gl (α:=El cI3) g)∧0≤(x.1:Int)∧(x.1:Int)≤100000) (finG (Exit.exit 0) [] ((tbGo (elF x.1) (x.2.1-x.2.2.1).toNat x.2.2.1 y.1).2,()) g (tbGo (elF x.1) (x.2.1-x.2.2.1).toNat x.2.2.1 y.1).1)
theorem el_core (m n i : Int) (t : WT) (g : G3) (Q : Exit × List Av × RSpec.Y spEl × RSpec.G spEl → Prop) (hq : (outEl (m, n, i, ()) (t, ()) g).wp Q) : (elR m n i t g).wp fun r => match r with
      | .again x' y' g'=>(x'.2.1-x'.2.2.1).toNat<(n-i).toNat∧(outEl x' y' g').wp Q
      | .out e avs y' g'=>Q (e,avs,y',g'):=by
  obtain ⟨⟨⟨hn,i0,ht,hg⟩,hm⟩,hq⟩:=hq
  have hn:n≤4000:=hn
  have i0:0≤i:=i0
  have ht:WOk t:=ht
  have hm:0≤m∧m≤100000:=hm
  have hg:((gl g:Nat):Int)≤i:=hg
  have hq:(finG (Exit.exit 0) [] ((tbGo (elF m) (n-i).toNat i t).2,()) g (tbGo (elF m) (n-i).toNat i t).1).wp Q:=hq
  have ex:(¬ i<n∨t.2=true)→(elEx t g).wp fun r=>match r with
      | .again x' y' g'=>(x'.2.1-x'.2.2.1).toNat<(n-i).toNat∧(outEl x' y' g').wp Q
      | .out e avs y' g'=>Q (e,avs,y',g'):=fun h=>by
    rw[tbGo_end (elF m) h]at hq
    exact wned (gnd_gl g) (finG_nil hq)
  refine ⟨fun hlt=>⟨fun hb=>?_,fun hb=>ex (.inr (by simpa using hb))⟩,fun hge=>ex (.inl (of_decide_eq_false hge))⟩
  have hlt:=of_decide_eq_true hlt
  have hb:t.2=false:=by simpa using hb
  rw[tbGo_next (elF m) hlt hb]at hq
  have hl:=trW_len (k:=3) (by decide) t
  have hs:=trW_ok (k:=3) ht
  unfold elB
  have w0:wi1 0=1:=wi1_eq (by decide)
  have w1:wi1 1=2:=wi1_eq (by decide)
  have w2:wi1 2=3:=wi1_eq (by decide)
  rw[w0,w1,w2]
  refine wned ⟨ht,⟨i0,by omega⟩,by decide⟩ (elN_wp hl hs hm (by decide) rfl (elN_wp hl hs hm (by decide) rfl (elN_wp hl hs hm (by decide) rfl (wned (by decide) ?_))))
  unfold elK
  have hM:maxLen=9223372036854775807:=rfl
  refine appG_wp (by omega) (by omega) fun k=>wned (gnd_app g _ k) ?_
  rw[wi1_eq (i:=i) (by omega)]
  refine ⟨show (n-(i+1)).toNat<(n-i).toNat by omega,wned ⟨⟨hn,show 0≤i+1 by omega,wnT_ok (wnT_ok (wnT_ok (trT_ok (i:=i) (k:=3) ht))),?_⟩,hm⟩ (finG_cons hq k)⟩
  show (((gx g++[_]).length:Nat):Int)≤i+1
  rw[List.length_append,←gl_eq]
  simp only[List.length_cons,List.length_nil]
  omega
theorem elL_ok:LoopOk Tryz.prog 0 (bodyOf Tryz.f49 0) (spEl.run outEl):=
  loopR_ok (E:=EW3) (L:=lpElI) mixed 0 (inner_one (by kernel_rfl) unEl_ok) spEl (Nat.zero_le _) outEl (fun x _ _=>(x.2.1-x.2.2.1).toNat) (by
    rintro ⟨m,n,i,⟨⟩⟩ ⟨t,⟨⟩⟩ g Q hq
    match g,hq with
    | some (xs,cap),hq =>
      rw[tr_elL_eq m n i t xs cap]
      exact el_core m n i t (some (xs,cap)) Q hq
    | none,hq =>
      rw[tr_elL0_eq m n i t]
      exact el_core m n i t none Q hq)
noncomputable def lpEl:Loops:=oneL 4 (spEl.run outEl)
def elTree (s:ByteArray) (m:Int):T Av:=tbT s [3,0] fun n t=>.need True (.need (TbInv n 0 t (gl (none:G3))∧0≤m∧m≤100000) (tbFin cI3 (tbGo (elF m) (n-0).toNat 0 t).1 (tbGo (elF m) (n-0).toNat 0 t).2))
theorem tr_eles_eq (s:ByteArray) (m:Int):fnP EW3 lpEl Tryz.f49 (encs [(false,.str),(false,.int .i64)] (s,m,()))=elTree s m:=by kernel_rfl
def elesR (s:ByteArray) (m:Int):List I3×WT:=tbGo (elF m) (tabN s [3,0]).toNat 0 (tabT s [3,0])
noncomputable def con_weles:Con Tryz.prog:=⟨49,[],_,cf_weles,val_con_wL (E:=EW3) (L:=lpEl) mixed Tryz.func49 (one_loop elL_ok (by kernel_rfl)) [(false,.str),(false,.int .i64)] (fun x=>ByteArray.size x.1≤900000∧0≤(x.2.1:Int)∧(x.2.1:Int)≤100000) (fun x=>.tup [.one (.ds cI3 (elesR x.1 x.2.1).1),.one (.v (.bool (wendB (elesR x.1 x.2.1).2)))]) fun x hx=>by
  obtain ⟨s,m,u⟩:=x
  have h1:s.size≤900000:=hx.1
  have h2:0≤m∧m≤100000:=hx.2
  rw[show fnP EW3 lpEl Tryz.f49 (encs [(false,.str),(false,.int .i64)] (s,m,u))=elTree s m from tr_eles_eq s m]
  refine tbT_wp h1 (by decide) (wned trivial (wned ⟨⟨(tabN_in s _).2,Int.le_refl 0,tabT_ok h1,Int.le_refl 0⟩,h2⟩ ?_))
  rw[Int.sub_zero]
  exact tbFin_wp cI3 _ _⟩
abbrev spEg:RSpec:=⟨83,[(1,false,.int .i64),(7,false,.int .i64),(9,false,.int .i64)],[(6,0,0)],[(149,cTab)],fun _=>[],8,80,cI3,false,fun _=>8⟩
def egEx (t:WT) (g:G3):T (RRd spEg):=.need (gnd (gl g) g) (.ret (.out (Exit.exit 0) [] (t,()) g))
def egK (m n i:Int) (t:WT) (g:G3) (a b c:Int):T (RRd spEg):=appG 23 g (a,b,c) fun k g'=>.need (gnd k g') (.ret (.again (m,n,wi1 i,()) (t,()) g'))
def wvw (w:ByteArray) (m:Int):Int:=IntKind.wrap .i64 (wnV w 1 m-1)
def nsz {β:Type} (w:ByteArray) (K:T β):T β:=.need (ByteArray.size w≤281474976710656) K
def egD (m n i:Int) (c:Int) (W:List ByteArray) (t:WT) (g:G3):T (RRd spEg):=.get W 0 fun a=>.get W 1 fun b=>nsz a (nsz b (egK m n i (wnT b 1 m (wnT a 1 m t)) g (wvw a m) (wvw b m) c))
def egC (m n i:Int) (t:WT) (g:G3) (W:List ByteArray) (c:ByteArray):T (RRd spEg):=.ite t.2 (egD m n i (wiv c) W (t.1,true) g) (egD m n i (wiv c) W (t.1,!lintB c) g)
def egB (m n i:Int) (t:WT) (g:G3):T (RRd spEg):=.need (WOk t∧(0≤i∧i≤100000)∧(0≤(3:Int)∧(3:Int)≤100)) (.get (trW 3 t) 2 fun c=>.need (ByteArray.size c≤281474976710656) (egC m n i (trT i 3 t) g (trW 3 t) c))
def egR (m n i:Int) (t:WT) (g:G3):T (RRd spEg):=.ite (decide (i<n)) (.ite (!t.2) (egB m n i t g) (egEx t g)) (egEx t g)
theorem tr_egL_eq (m n i:Int) (t:WT) (xs:List (El cI3)) (cap:Nat):RSpec.round spEg EW3 (fun _=>none) (bodyOf Tryz.f50 0) (m,n,i,()) (t,()) (some (xs,cap))=egR m n i t (some (xs,cap)):=by kernel_rfl
theorem tr_egL0_eq (m n i:Int) (t:WT):RSpec.round spEg EW3 (fun _=>none) (bodyOf Tryz.f50 0) (m,n,i,()) (t,()) none=egR m n i t none:=by kernel_rfl
def egF (m i:Int) (t:WT):I3×WT:=((wv1 (wat (trW 3 t) 0) m,wv1 (wat (trW 3 t) 1) m,wiv (wat (trW 3 t) 2)),wnT (wat (trW 3 t) 1) 1 m (wnT (wat (trW 3 t) 0) 1 m ((trT i 3 t).1,(trT i 3 t).2 || !lintB (wat (trW 3 t) 2))))
def outEg (x:RSpec.X spEg) (y:RSpec.Y spEg) (g:RSpec.G spEg):T (Exit×List Av×RSpec.Y spEg×RSpec.G spEg):=
  .need (TbInv x.2.1 x.2.2.1 y.1 (gl (α:=El cI3) g)∧0≤(x.1:Int)∧(x.1:Int)≤100000) (finG (Exit.exit 0) [] ((tbGo (egF x.1) (x.2.1-x.2.2.1).toNat x.2.2.1 y.1).2,()) g (tbGo (egF x.1) (x.2.1-x.2.2.1).toNat x.2.2.1 y.1).1)
theorem eg_core (m n i : Int) (t : WT) (g : G3) (Q : Exit × List Av × RSpec.Y spEg × RSpec.G spEg → Prop) (hq : (outEg (m, n, i, ()) (t, ()) g).wp Q) : (egR m n i t g).wp fun r => match r with
      | .again x' y' g'=>(x'.2.1-x'.2.2.1).toNat<(n-i).toNat∧(outEg x' y' g').wp Q
      | .out e avs y' g'=>Q (e,avs,y',g'):=by
  obtain ⟨⟨⟨hn,i0,ht,hg⟩,hm⟩,hq⟩:=hq
  have hn:n≤4000:=hn
  have i0:0≤i:=i0
  have ht:WOk t:=ht
  have hm:0≤m∧m≤100000:=hm
  have hg:((gl g:Nat):Int)≤i:=hg
  have hq:(finG (Exit.exit 0) [] ((tbGo (egF m) (n-i).toNat i t).2,()) g (tbGo (egF m) (n-i).toNat i t).1).wp Q:=hq
  have ex:(¬ i<n∨t.2=true)→(egEx t g).wp fun r=>match r with
      | .again x' y' g'=>(x'.2.1-x'.2.2.1).toNat<(n-i).toNat∧(outEg x' y' g').wp Q
      | .out e avs y' g'=>Q (e,avs,y',g'):=fun h=>by
    rw[tbGo_end (egF m) h]at hq
    exact wned (gnd_gl g) (finG_nil hq)
  refine ⟨fun hlt=>⟨fun hb=>?_,fun hb=>ex (.inr (by simpa using hb))⟩,fun hge=>ex (.inl (of_decide_eq_false hge))⟩
  have hlt:=of_decide_eq_true hlt
  have hb:t.2=false:=by simpa using hb
  rw[tbGo_next (egF m) hlt hb]at hq
  have hl:=trW_len (k:=3) (by decide) t
  have hs:=fun k=>wat_ok (k:=k) (trW_ok (k:=3) ht)
  have s0:=hs 0
  have s1:=hs 1
  have s2:=hs 2
  have K : ∀ bad:Bool,((trT i 3 t).2 || !lintB (wat (trW 3 t) 2))=bad→(egD m n i (wiv (wat (trW 3 t) 2)) (trW 3 t) ((trT i 3 t).1,bad) g).wp fun r=>match r with
      | .again x' y' g'=>(x'.2.1-x'.2.2.1).toNat<(n-i).toNat∧(outEg x' y' g').wp Q
      | .out e avs y' g'=>Q (e,avs,y',g'):=fun bad hbad=>by
    unfold egD nsz egK
    refine wget (Int.le_refl 0) (wat_get (k:=0) (by omega)) (wget (by decide) (wat_get (k:=1) (by omega)) (wned (by omega) (wned (by omega) ?_)))
    have hM:maxLen=9223372036854775807:=rfl
    refine appG_wp (by omega) (by omega) fun k=>wned (gnd_app g _ k) ?_
    rw[wi1_eq (i:=i) (by omega),show wvw (wat (trW 3 t) 0) m=wv1 (wat (trW 3 t) 0) m from wv1_wrap hm,show wvw (wat (trW 3 t) 1) m=wv1 (wat (trW 3 t) 1) m from wv1_wrap hm]
    have ef:egF m i t=((wv1 (wat (trW 3 t) 0) m,wv1 (wat (trW 3 t) 1) m,wiv (wat (trW 3 t) 2)),wnT (wat (trW 3 t) 1) 1 m (wnT (wat (trW 3 t) 0) 1 m ((trT i 3 t).1,bad))):=by unfold egF;rw[hbad]
    rw[ef]at hq
    refine ⟨show (n-(i+1)).toNat<(n-i).toNat by omega,wned ⟨⟨hn,show 0≤i+1 by omega,trT_ok (i:=i) (k:=3) ht,?_⟩,hm⟩ (finG_cons hq k)⟩
    show (((gx g++[_]).length:Nat):Int)≤i+1
    rw[List.length_append,←gl_eq]
    simp only[List.length_cons,List.length_nil]
    omega
  unfold egB
  refine wned ⟨ht,⟨i0,by omega⟩,by decide⟩ (wget (by decide) (wat_get (k:=2) (by omega)) (wned (by omega) ⟨fun h=>K true (by rw[show (trT i 3 t).2=true from h];rfl),fun h=>K _ (by rw[show (trT i 3 t).2=false from h];rfl)⟩))
theorem egL_ok:LoopOk Tryz.prog 0 (bodyOf Tryz.f50 0) (spEg.run outEg):=
  loopR_ok (E:=EW3) (L:=fun _=>none) mixed 0 (loops_none _ _ _) spEg (Nat.zero_le _) outEg (fun x _ _=>(x.2.1-x.2.2.1).toNat) (by
    rintro ⟨m,n,i,⟨⟩⟩ ⟨t,⟨⟩⟩ g Q hq
    match g,hq with
    | some (xs,cap),hq =>
      rw[tr_egL_eq m n i t xs cap]
      exact eg_core m n i t (some (xs,cap)) Q hq
    | none,hq =>
      rw[tr_egL0_eq m n i t]
      exact eg_core m n i t none Q hq)
noncomputable def lpEg:Loops:=oneL 4 (spEg.run outEg)
def egTree (s:ByteArray) (m:Int):T Av:=tbT s [1] fun n t=>.need True (.need (TbInv n 0 t (gl (none:G3))∧0≤m∧m≤100000) (tbFin cI3 (tbGo (egF m) (n-0).toNat 0 t).1 (tbGo (egF m) (n-0).toNat 0 t).2))
theorem tr_edges_eq (s:ByteArray) (m:Int):fnP EW3 lpEg Tryz.f50 (encs [(false,.str),(false,.int .i64)] (s,m,()))=egTree s m:=by kernel_rfl
def edgesR (s:ByteArray) (m:Int):List I3×WT:=tbGo (egF m) (tabN s [1]).toNat 0 (tabT s [1])
noncomputable def con_wedges:Con Tryz.prog:=⟨50,[],_,cf_wedges,val_con_wL (E:=EW3) (L:=lpEg) mixed Tryz.func50 (one_loop egL_ok (by kernel_rfl)) [(false,.str),(false,.int .i64)] (fun x=>ByteArray.size x.1≤900000∧0≤(x.2.1:Int)∧(x.2.1:Int)≤100000) (fun x=>.tup [.one (.ds cI3 (edgesR x.1 x.2.1).1),.one (.v (.bool (wendB (edgesR x.1 x.2.1).2)))]) fun x hx=>by
  obtain ⟨s,m,u⟩:=x
  have h1:s.size≤900000:=hx.1
  have h2:0≤m∧m≤100000:=hx.2
  rw[show fnP EW3 lpEg Tryz.f50 (encs [(false,.str),(false,.int .i64)] (s,m,u))=egTree s m from tr_edges_eq s m]
  refine tbT_wp h1 (by decide) (wned trivial (wned ⟨⟨(tabN_in s _).2,Int.le_refl 0,tabT_ok h1,Int.le_refl 0⟩,h2⟩ ?_))
  rw[Int.sub_zero]
  exact tbFin_wp cI3 _ _⟩
noncomputable def EW4:Env Tryz.prog:=EW3.add [con_wnodes,con_weles,con_wedges]
abbrev Mesh:=El cMesh
def mshA (m:Mesh) (k:Int):Av:=.tup [.agg (ck cMesh m),.one (.v (.int .i64 k))]
def rdBad (k:Int):T Av:=.ret (mshA (zE cMesh) k)
def nLen (a:ByteArray):Int:=(List.length (nodesR a).1:Int)
def rdTree (a b c:ByteArray):T Av:=.need (ByteArray.size a≤900000) (.ite (!wendB (nodesR a).2) (rdBad 1)
  (.need (ByteArray.size b≤900000∧0≤nLen a∧nLen a≤100000) (.ite (!wendB (elesR b (nLen a)).2) (rdBad 2)
    (.need (ByteArray.size c≤900000∧0≤nLen a∧nLen a≤100000) (.ite (!wendB (edgesR c (nLen a)).2) (rdBad 3)
      (.ret (mshA ((nodesR a).1,(elesR b (nLen a)).1,(edgesR c (nLen a)).1) 0)))))))
theorem tr_wread_eq (a b c:ByteArray):fnP EW4 (fun _=>none) Tryz.f21 (encs [(false,.str),(false,.str),(false,.str)] (a,b,c,()))=rdTree a b c:=by kernel_rfl
def rdM (a b c:ByteArray):Mesh×Int:=if wendB (nodesR a).2=false then (zE cMesh,1) else if wendB (elesR b (nLen a)).2=false then (zE cMesh,2) else if wendB (edgesR c (nLen a)).2=false then (zE cMesh,3) else (((nodesR a).1,(elesR b (nLen a)).1,(edgesR c (nLen a)).1),0)
theorem tbGo_len {α:Type} (f:Int→WT→α×WT) : ∀ (k:Nat) (i:Int) (t:WT),(tbGo f k i t).1.length≤k
  | 0,_,_=>Nat.le_refl _
  | k+1,i,t=>by
    rw[tbGo]
    split
    · exact Nat.zero_le _
    · have:=tbGo_len f k (i+1) (f i t).2
      simp only[List.length_cons]
      omega
theorem nLen_in (a:ByteArray):0≤nLen a∧nLen a≤100000:=by
  have h1:=tbGo_len ndF (tabN a [2,0,0]).toNat 0 (tabT a [2,0,0])
  have h2:=tabN_in a [2,0,0]
  unfold nLen nodesR
  omega
noncomputable def con_wread:Con Tryz.prog:=⟨21,[],_,cf_wread,val_con (E:=EW4) (L:=fun _=>none) mixed Tryz.func21 no_loops [(false,.str),(false,.str),(false,.str)] (fun x=>ByteArray.size x.1≤900000∧ByteArray.size x.2.1≤900000∧ByteArray.size x.2.2.1≤900000) (fun x=>mshA (rdM x.1 x.2.1 x.2.2.1).1 (rdM x.1 x.2.1 x.2.2.1).2) fun x hx=>by
  obtain ⟨a,b,c,u⟩:=x
  have ha:a.size≤900000:=hx.1
  have hb:b.size≤900000:=hx.2.1
  have hc:c.size≤900000:=hx.2.2
  rw[show fnP EW4 (fun _=>none) Tryz.f21 (encs [(false,.str),(false,.str),(false,.str)] (a,b,c,u))=rdTree a b c from tr_wread_eq a b c]
  have hn:=nLen_in a
  show (rdTree a b c).wp (· = mshA (rdM a b c).1 (rdM a b c).2)
  unfold rdTree rdM
  have no : ∀ {x:Bool},(!x)=true→x=false:=fun h=>by simpa using h
  have yes : ∀ {x:Bool},(!x)=false→¬ x=false:=fun h=>by simpa using h
  refine wned ha ⟨fun h1=>?_,fun h1=>wned ⟨hb,hn⟩ ⟨fun h2=>?_,fun h2=>wned ⟨hc,hn⟩ ⟨fun h3=>?_,fun h3=>?_⟩⟩⟩
  · rw[if_pos (no h1)];rfl
  · rw[if_neg (yes h1),if_pos (no h2)];rfl
  · rw[if_neg (yes h1),if_neg (yes h2),if_pos (no h3)];rfl
  · rw[if_neg (yes h1),if_neg (yes h2),if_neg (yes h3)];rfl⟩
abbrev spIn:RSpec:=⟨20,[(6,false,.sl (.int .i64)),(7,false,.int .i64),(8,false,.int .i64)],[],[],fun _=>[],3,9,.str,false,fun _=>3⟩
abbrev GSt:=Gr ByteArray
def inR (l:List Int) (n i:Int) (g:GSt):T (RRd spIn):=.ite (decide (i<n)) (.get l i fun v=>.need (-9223372036854775808≤v∧v≤9223372036854775807) (appG 15 g (itoaS v) fun m g'=>.need (gnd m g') (.ret (.again (l,n,wi1 i,()) () g')))) (.need (gnd (gl g) g) (.ret (.out (Exit.exit 0) [] () g)))
theorem tr_inL_eq (l:List Int) (n i:Int) (xs:List ByteArray) (cap:Nat):RSpec.round spIn EW2 (fun _=>none) (bodyOf Tryz.f35 0) (l,n,i,()) () (some (xs,cap))=inR l n i (some (xs,cap)):=by kernel_rfl
theorem tr_inL0_eq (l:List Int) (n i:Int):RSpec.round spIn EW2 (fun _=>none) (bodyOf Tryz.f35 0) (l,n,i,()) () none=inR l n i none:=by kernel_rfl
def in64W (v:Int):Prop := -9223372036854775808≤v∧v≤9223372036854775807
def outIn (x:RSpec.X spIn) (y:RSpec.Y spIn) (g:RSpec.G spIn):T (Exit×List Av×RSpec.Y spIn×RSpec.G spIn):=
  .need (x.2.1=(List.length x.1:Int)∧0≤x.2.2.1∧List.length x.1≤1000∧(∀ v∈(x.1:List Int),in64W v)∧((gl (α:=ByteArray) g:Nat):Int)≤x.2.2.1) (finG (Exit.exit 0) [] () g ((List.drop x.2.2.1.toNat (x.1:List Int)).map itoaS))
theorem in_core (l : List Int) (n i : Int) (g : GSt) (Q : Exit × List Av × RSpec.Y spIn × RSpec.G spIn → Prop) (hq : (outIn (l, n, i, ()) () g).wp Q) : (inR l n i g).wp fun r => match r with
      | .again x' y' g'=>(x'.2.1-x'.2.2.1).toNat<(n-i).toNat∧(outIn x' y' g').wp Q
      | .out e avs y' g'=>Q (e,avs,y',g'):=by
  obtain ⟨⟨hn,i0,hl,hv,hg⟩,hq⟩:=hq
  have hn:n=(l.length:Int):=hn
  have i0:0≤i:=i0
  have hl:l.length≤1000:=hl
  have hv : ∀ v∈l,in64W v:=hv
  have hg:((gl g:Nat):Int)≤i:=hg
  have hq:(finG (Exit.exit 0) [] () g ((List.drop i.toNat l).map itoaS)).wp Q:=hq
  refine ⟨fun hlt=>?_,fun hge=>?_⟩
  · have hlt:=of_decide_eq_true hlt
    obtain ⟨v,hvi⟩:=elem_at (l:=l) i0 (by omega)
    rw[drop_at i0 hvi,List.map_cons]at hq
    have hM:maxLen=9223372036854775807:=rfl
    refine wget i0 hvi (wned (hv v (List.mem_of_getElem? hvi)) (appG_wp (by omega) (by omega) fun k=>wned (gnd_app g _ k) ?_))
    rw[wi1_eq (i:=i) (by omega)]
    refine ⟨show (n-(i+1)).toNat<(n-i).toNat by omega,wned ⟨hn,show 0≤i+1 by omega,hl,hv,?_⟩ (finG_cons hq k)⟩
    show (((gx g++[_]).length:Nat):Int)≤i+1
    rw[List.length_append,←gl_eq]
    simp only[List.length_cons,List.length_nil]
    omega
  · have hge:=of_decide_eq_false hge
    rw[drop_end (by omega)]at hq
    exact wned (gnd_gl g) (finG_nil hq)
theorem inL_ok:LoopOk Tryz.prog 0 (bodyOf Tryz.f35 0) (spIn.run outIn):=
  loopR_ok (E:=EW2) (L:=fun _=>none) mixed 0 (loops_none _ _ _) spIn (Nat.zero_le _) outIn (fun x _ _=>(x.2.1-x.2.2.1).toNat) (by
    rintro ⟨l,n,i,⟨⟩⟩ ⟨⟩ g Q hq
    match g,hq with
    | some (xs,cap),hq =>
      rw[tr_inL_eq l n i xs cap]
      exact in_core l n i (some (xs,cap)) Q hq
    | none,hq =>
      rw[tr_inL0_eq l n i]
      exact in_core l n i none Q hq)
noncomputable def lpIn:Loops:=oneL 3 (spIn.run outIn)
noncomputable def EW2f:Env Tryz.prog:=EW2.fz [(7,[3])]
def rwC (xs:List ByteArray):T Av:=.need (List.length xs≤1000000∧(joinB xs spB).size≤1000000000) (.ret (.one (.v (.string (rowS xs)))))
def inTree (l:List Int):T Av:=.need True (.need ((List.length l:Int)=(List.length l:Int)∧(0:Int)≤0∧List.length l≤1000∧(∀ v∈l,in64W v)∧((gl (none:GSt):Nat):Int)≤0) (.ite ((List.drop (Int.toNat 0) l).map itoaS).isEmpty (rwC []) (.up 0 fun _=>.need (List.length ((List.drop (Int.toNat 0) l).map itoaS)≤List.length ((List.drop (Int.toNat 0) l).map itoaS)) (rwC (List.take (List.length ((List.drop (Int.toNat 0) l).map itoaS)) ((List.drop (Int.toNat 0) l).map itoaS))))))
theorem tr_wints_eq (l:List Int):fnP EW2f lpIn Tryz.f35 (encs [(false,.sl (.int .i64))] (l,()))=inTree l:=by kernel_rfl
theorem inter_len (b:Nat) : ∀ ws:List (List UInt8),(∀ w∈ws,w.length≤b)→(inter ws).length≤ws.length*(b+1)
  | [],_=>Nat.zero_le _
  | [w],h=>by have:=h w (by simp);simp[inter];omega
  | w::x::r,h=>by
    have h1:=h w (by simp)
    have h2:=inter_len b (x::r) (fun y hy=>h y (by simp at hy ⊢;exact .inr hy))
    rw[inter,List.length_append,List.length_cons,List.length_cons (a:=w),Nat.add_mul]
    omega
theorem joinB_list (xs:List ByteArray):(joinB xs spB).data.toList=inter (xs.map (·.data.toList)):=inter_join _
theorem rowS_list (xs:List ByteArray):(rowS xs).data.toList=rowU (xs.map (·.data.toList)):=by
  unfold rowS rowU
  rw[←joinB_list]
  simp
theorem joinB_size (b:Nat) (xs:List ByteArray) (h : ∀ w∈xs,w.size≤b):(joinB xs spB).size≤xs.length*(b+1):=by
  have:=inter_len b (xs.map (·.data.toList)) (fun w hw=>by
    obtain ⟨x,hx,rfl⟩:=List.mem_map.1 hw
    rw[←Lib.size_eq]
    exact h x hx)
  rw[←joinB_list,←Lib.size_eq,List.length_map]at this
  exact this
theorem rowS_size (b:Nat) (xs:List ByteArray) (h : ∀ w∈xs,w.size≤b):(rowS xs).size≤xs.length*(b+1)+1:=by
  have:=joinB_size b xs h
  unfold rowS
  rw[ByteArray.size_append]
  have:ByteArray.size ⟨#[10]⟩=1:=rfl
  omega
theorem itoaS_size {v:Int} (h:in64W v):(itoaS v).size≤20:=by
  unfold in64W at h
  have h9:(Lib.decDigits v.natAbs).length≤19:=by
    rw[Lib.decDigits_length]
    exact nd_le 18 _ (by omega)
  show (Lib.itoa v).toArray.size≤20
  rw[List.size_toArray]
  unfold Lib.itoa
  split
  · rw[List.length_cons];omega
  · rw[show v.toNat=v.natAbs by omega];omega
def intsS (l:List Int):ByteArray:=rowS (l.map itoaS)
theorem rwC_wp {xs:List ByteArray} (hl:xs.length≤1000) (h : ∀ w∈xs,w.size≤3000):(rwC xs).wp (· = .one (.v (.string (rowS xs)))):=by
  have h1:=joinB_size 3000 xs h
  have h2:xs.length*(3000+1)≤1000*3001:=Nat.mul_le_mul_right _ hl
  exact wned ⟨by omega,by omega⟩ rfl
theorem ints_w {l:List Int} (hv : ∀ v∈l,in64W v) : ∀ w∈l.map itoaS,w.size≤20:=fun w hw=>by
  obtain ⟨v,h,rfl⟩:=List.mem_map.1 hw
  exact itoaS_size (hv v h)
theorem intsS_size {l:List Int} (hv : ∀ v∈l,in64W v):(intsS l).size≤l.length*21+1:=by
  have:=rowS_size 20 _ (ints_w hv)
  rwa [List.length_map]at this
noncomputable def con_wints:Con Tryz.prog:=⟨35,[],_,cf_wints,val_con (E:=EW2f) (L:=lpIn) mixed Tryz.func35 (one_loop inL_ok (by kernel_rfl)) [(false,.sl (.int .i64))] (fun x=>List.length x.1≤1000 ∧ ∀ v∈(x.1:List Int),in64W v) (fun x=>.one (.v (.string (intsS x.1)))) fun x hx=>by
  obtain ⟨l,u⟩:=x
  have hl:l.length≤1000:=hx.1
  have hv : ∀ v∈l,in64W v:=hx.2
  rw[show fnP EW2f lpIn Tryz.f35 (encs [(false,.sl (.int .i64))] (l,u))=inTree l from tr_wints_eq l]
  show (inTree l).wp (· = .one (.v (.string (rowS (l.map itoaS)))))
  have hw : ∀ w∈l.map itoaS,w.size≤3000:=fun w hw=>Nat.le_trans (ints_w hv w hw) (by decide)
  refine wned trivial (wned ⟨rfl,Int.le_refl 0,hl,hv,Int.le_refl 0⟩ ⟨fun h=>?_,fun _ k _=>wned (Nat.le_refl _) ?_⟩)
  · have e:l.map itoaS=[]:=List.isEmpty_iff.1 h
    rw[e]
    exact rwC_wp (by decide) (fun w hw=>by cases hw)
  · rw[List.take_length]
    exact rwC_wp (by rw[List.length_map];exact hl) hw⟩
noncomputable def EW5:Env Tryz.prog:=EW4.add [con_wints]
abbrev spNs:LSpec:=⟨34,[(3,false,.str),(12,false,.sl cP),(13,false,.int .i64),(14,false,.int .i64)],[],[],fun e=>match e with|.exit _=>[3]|_=>[]⟩
abbrev spEs:LSpec:=⟨36,[(3,false,.str),(12,false,.sl cI3),(13,false,.int .i64),(14,false,.int .i64)],[],[],fun e=>match e with|.exit _=>[3]|_=>[]⟩
abbrev spGs:LSpec:=⟨35,[(3,false,.str),(12,false,.sl cI3),(13,false,.int .i64),(14,false,.int .i64)],[],[],fun e=>match e with|.exit _=>[3]|_=>[]⟩
abbrev spRo:LSpec:=⟨57,[(1,false,.int .i64),(6,false,.str),(19,false,.sl cP),(20,false,.int .i64),(21,false,.int .i64)],[],[],fun e=>match e with|.exit _=>[6]|.ret=>[4,5]|_=>[]⟩
def rowN {β:Type} (s:ByteArray) (xs:List ByteArray) (K:ByteArray→T β):T β:=.need (List.length xs≤1000000∧(joinB xs spB).size≤1000000000) (.need (((ByteArray.size s+ByteArray.size (rowS xs):Nat):Int)≤IntKind.max .i64) (.lt (s++rowS xs) K))
def intsN {β:Type} (s:ByteArray) (xs:List Int) (K:ByteArray→T β):T β:=.need (List.length xs≤1000 ∧ ∀ v∈xs,in64W v) (.need (((ByteArray.size s+ByteArray.size (intsS xs):Nat):Int)≤IntKind.max .i64) (.lt (s++intsS xs) K))
def ix3 {β:Type} (K:T β):T β:=.need ((0:Int)≤0∧(0:Int)<3) (.need ((0:Int)≤1∧(1:Int)<3) (.need ((0:Int)≤2∧(2:Int)<3) K))
def nsR (s:ByteArray) (l:List Pt) (n i:Int):T (Rd spNs):=.ite (decide (i<n)) (.get l i fun p=>.need (-9223372036854775808≤wi1 i∧wi1 i≤9223372036854775807) (rowN s [itoaS (wi1 i),ftxt p.1,ftxt p.2] fun v=>.ret (.again (v,l,n,wi1 i,()) ()))) (.ret (.out (Exit.exit 0) [.one (.v (.string s))] ()))
def esR (s:ByteArray) (l:List I3) (n i:Int):T (Rd spEs):=.ite (decide (i<n)) (.get l i fun p=>ix3 (intsN s [wi1 i,wi1 p.1,wi1 p.2.1,wi1 p.2.2] fun v=>.ret (.again (v,l,n,wi1 i,()) ()))) (.ret (.out (Exit.exit 0) [.one (.v (.string s))] ()))
def gsR (s:ByteArray) (l:List I3) (n i:Int):T (Rd spGs):=.ite (decide (i<n)) (.get l i fun p=>intsN s [wi1 i,wi1 p.1,wi1 p.2.1,p.2.2] fun v=>.ret (.again (v,l,n,wi1 i,()) ())) (.ret (.out (Exit.exit 0) [.one (.v (.string s))] ()))
def decV (x:F) (k:Int):ByteArray:=if safeF 500 x=true then decS (qdec x (clampD k)) (clampD k) (zW x.1) else ⟨#[]⟩
def roBad:T (Rd spRo):=.ret (.out Exit.ret [.one (.v (.string ⟨#[]⟩)),.one (.v (.bool false))] ())
def roR (k:Int) (s:ByteArray) (l:List Pt) (n i:Int):T (Rd spRo):=.ite (decide (i<n)) (.get l i fun p=>.ite (!safeF 500 p.1) roBad (.ite (!safeF 500 p.2) roBad (.need (-9223372036854775808≤wi1 i∧wi1 i≤9223372036854775807) (rowN s [itoaS (wi1 i),decV p.1 k,decV p.2 k] fun v=>.ret (.again (k,v,l,n,wi1 i,()) ()))))) (.ret (.out (Exit.exit 0) [.one (.v (.string s))] ()))
theorem tr_nsL_eq (s:ByteArray) (l:List Pt) (n i:Int):LSpec.round spNs EW5 (fun _=>none) (bodyOf Tryz.f18 0) (s,l,n,i,()) ()=nsR s l n i:=by kernel_rfl
theorem tr_esL_eq (s:ByteArray) (l:List I3) (n i:Int):LSpec.round spEs EW5 (fun _=>none) (bodyOf Tryz.f19 0) (s,l,n,i,()) ()=esR s l n i:=by kernel_rfl
theorem tr_gsL_eq (s:ByteArray) (l:List I3) (n i:Int):LSpec.round spGs EW5 (fun _=>none) (bodyOf Tryz.f20 0) (s,l,n,i,()) ()=gsR s l n i:=by kernel_rfl
theorem tr_roL_eq (k:Int) (s:ByteArray) (l:List Pt) (n i:Int):LSpec.round spRo EW5 (fun _=>none) (bodyOf Tryz.f10 0) (k,s,l,n,i,()) ()=roR k s l n i:=by kernel_rfl
def strL {α:Type} (f:Int→α→ByteArray):List α→Int→ByteArray
  | [],_=>⟨#[]⟩
  | p::r,i=>f (i+1) p++strL f r (i+1)
theorem app_nil (s:ByteArray):s++(⟨#[]⟩:ByteArray)=s:=by
  have e:(s++(⟨#[]⟩:ByteArray)).data.toList=s.data.toList:=by simp
  rw[←mkB_data (s++⟨#[]⟩),e,mkB_data]
def nsF (i:Int) (p:Pt):ByteArray:=rowS [itoaS i,ftxt p.1,ftxt p.2]
def esF (i:Int) (p:I3):ByteArray:=intsS [i,p.1+1,p.2.1+1,p.2.2+1]
def gsF (i:Int) (p:I3):ByteArray:=intsS [i,p.1+1,p.2.1+1,p.2.2]
def roF (k i:Int) (p:Pt):ByteArray:=rowS [itoaS i,decV p.1 k,decV p.2 k]
abbrev StInv {α:Type} (s:ByteArray) (l:List α) (n i:Int):Prop:=n=(l.length:Int)∧0≤i∧i≤(l.length:Int)∧l.length≤1000∧(s.size:Int)+10000*((l.length:Int)-i)≤100000000
def smI (v:Int):Prop := -1000000000000≤v∧v≤1000000000000
def smP (p:I3):Prop:=smI p.1∧smI p.2.1∧smI p.2.2
def outNs (x:LSpec.X spNs) (y:LSpec.Y spNs):T (Exit×List Av×LSpec.Y spNs):=.need (StInv (α:=Pt) x.1 x.2.1 x.2.2.1 x.2.2.2.1) (.ret (.exit 0,[.one (.v (.string (x.1++strL nsF (List.drop (Int.toNat x.2.2.2.1) (x.2.1:List Pt)) x.2.2.2.1)))],()))
def outEs (x:LSpec.X spEs) (y:LSpec.Y spEs):T (Exit×List Av×LSpec.Y spEs):=.need (StInv (α:=I3) x.1 x.2.1 x.2.2.1 x.2.2.2.1 ∧ ∀ p∈(x.2.1:List I3),smP p) (.ret (.exit 0,[.one (.v (.string (x.1++strL esF (List.drop (Int.toNat x.2.2.2.1) (x.2.1:List I3)) x.2.2.2.1)))],()))
def outGs (x:LSpec.X spGs) (y:LSpec.Y spGs):T (Exit×List Av×LSpec.Y spGs):=.need (StInv (α:=I3) x.1 x.2.1 x.2.2.1 x.2.2.2.1 ∧ ∀ p∈(x.2.1:List I3),smP p) (.ret (.exit 0,[.one (.v (.string (x.1++strL gsF (List.drop (Int.toNat x.2.2.2.1) (x.2.1:List I3)) x.2.2.2.1)))],()))
theorem ftxt_size (x:F):(ftxt x).size≤2051:=by
  unfold ftxt
  have h1:=txt_size x.1
  have h2:=txt_size x.2
  have h3:ByteArray.size (⟨#[47]⟩:ByteArray)=1:=rfl
  split
  · split
    · omega
    · rw[ByteArray.size_append,ByteArray.size_append];omega
  · exact Nat.zero_le _
theorem rowN_wp {β:Type} {s:ByteArray} {xs:List ByteArray} {K:ByteArray→T β} {Q:β→Prop} (hx:xs.length≤4) (hw : ∀ w∈xs,w.size≤2051) (hs:s.size≤100000000) (h:(K (s++rowS xs)).wp Q):(rowN s xs K).wp Q:=by
  have h1:=joinB_size 2051 xs hw
  have h2:=rowS_size 2051 xs hw
  have h3:xs.length*(2051+1)≤4*2052:=Nat.mul_le_mul_right _ hx
  refine wned ⟨by omega,by omega⟩ (wned ?_ h)
  show ((s.size+(rowS xs).size:Nat):Int)≤9223372036854775807
  omega
theorem intsN_wp {β:Type} {s:ByteArray} {xs:List Int} {K:ByteArray→T β} {Q:β→Prop} (hx:xs.length≤4) (hv : ∀ v∈xs,in64W v) (hs:s.size≤100000000) (h:(K (s++intsS xs)).wp Q):(intsN s xs K).wp Q:=by
  have h2:=intsS_size hv
  refine wned ⟨by omega,hv⟩ (wned ?_ h)
  show ((s.size+(intsS xs).size:Nat):Int)≤9223372036854775807
  omega
theorem strL_end {α:Type} (f:Int→α→ByteArray) {l:List α} {i:Int} (s:ByteArray) (h:(l.length:Int)≤i):s++strL f (List.drop i.toNat l) i=s:=by
  rw[drop_end h,strL,app_nil]
theorem strL_next {α:Type} (f:Int→α→ByteArray) {l:List α} {i:Int} {p:α} (s:ByteArray) (i0:0≤i) (h:l[i.toNat]?=some p):s++strL f (List.drop i.toNat l) i=(s++f (i+1) p)++strL f (List.drop (i+1).toNat l) (i+1):=by
  rw[drop_at i0 h,strL,ByteArray.append_assoc]
theorem ns_core (s : ByteArray) (l : List Pt) (n i : Int) (Q : Exit × List Av × LSpec.Y spNs → Prop) (hq : (outNs (s, l, n, i, ()) ()).wp Q) : (nsR s l n i).wp fun r => match r with
      | .again x' y'=>(x'.2.2.1-x'.2.2.2.1).toNat<(n-i).toNat∧(outNs x' y').wp Q
      | .out e avs y'=>Q (e,avs,y'):=by
  obtain ⟨⟨hn,i0,hi,hl,hs⟩,hq⟩:=hq
  have hn:n=(l.length:Int):=hn
  have i0:0≤i:=i0
  have hi:i≤(l.length:Int):=hi
  have hl:l.length≤1000:=hl
  have hs:(s.size:Int)+10000*((l.length:Int)-i)≤100000000:=hs
  have hq:Q (.exit 0,[.one (.v (.string (s++strL nsF (List.drop i.toNat l) i)))],()):=hq
  refine ⟨fun hlt=>?_,fun hge=>?_⟩
  · have hlt:=of_decide_eq_true hlt
    obtain ⟨p,hp⟩:=elem_at (l:=l) i0 (by omega)
    rw[strL_next nsF s i0 hp]at hq
    rw[wi1_eq (i:=i) (by omega)]
    have hw : ∀ w∈[itoaS (i+1),ftxt p.1,ftxt p.2],w.size≤2051:=fun w hw=>by
      rcases List.mem_cons.1 hw with rfl|hw
      · have:=itoaS_size (v:=i+1) (by unfold in64W;omega);omega
      · rcases List.mem_cons.1 hw with rfl|hw
        · exact ftxt_size _
        · rcases List.mem_cons.1 hw with rfl|hw
          · exact ftxt_size _
          · cases hw
    refine wget i0 hp (wned (by omega) (rowN_wp (by simp) hw (by omega) ⟨show (n-(i+1)).toNat<(n-i).toNat by omega,wned ⟨hn,show 0≤i+1 by omega,show i+1≤(l.length:Int) by omega,hl,?_⟩ hq⟩))
    have:=rowS_size 2051 _ hw
    show ((s++rowS [itoaS (i+1),ftxt p.1,ftxt p.2]).size:Int)+10000*((l.length:Int)-(i+1))≤100000000
    rw[ByteArray.size_append]
    simp only[List.length_cons,List.length_nil]at this
    omega
  · have hge:=of_decide_eq_false hge
    rw[strL_end nsF s (by omega)]at hq
    exact hq
theorem es_core (s : ByteArray) (l : List I3) (n i : Int) (Q : Exit × List Av × LSpec.Y spEs → Prop) (hq : (outEs (s, l, n, i, ()) ()).wp Q) : (esR s l n i).wp fun r => match r with
      | .again x' y'=>(x'.2.2.1-x'.2.2.2.1).toNat<(n-i).toNat∧(outEs x' y').wp Q
      | .out e avs y'=>Q (e,avs,y'):=by
  obtain ⟨⟨⟨hn,i0,hi,hl,hs⟩,hv⟩,hq⟩:=hq
  have hn:n=(l.length:Int):=hn
  have i0:0≤i:=i0
  have hi:i≤(l.length:Int):=hi
  have hl:l.length≤1000:=hl
  have hv : ∀ p∈l,smP p:=hv
  have hs:(s.size:Int)+10000*((l.length:Int)-i)≤100000000:=hs
  have hq:Q (.exit 0,[.one (.v (.string (s++strL esF (List.drop i.toNat l) i)))],()):=hq
  refine ⟨fun hlt=>?_,fun hge=>?_⟩
  · have hlt:=of_decide_eq_true hlt
    obtain ⟨p,hp⟩:=elem_at (l:=l) i0 (by omega)
    rw[strL_next esF s i0 hp]at hq
    obtain ⟨a,b,c⟩:=p
    obtain ⟨⟨a1,a2⟩,⟨b1,b2⟩,⟨c1,c2⟩⟩:=hv _ (List.mem_of_getElem? hp)
    refine wget i0 hp (wned (by decide) (wned (by decide) (wned (by decide) ?_)))
    rw[wi1_eq (i:=i) (by omega),wi1_eq (i:=a) ⟨a1,a2⟩,wi1_eq (i:=b) ⟨b1,b2⟩,wi1_eq (i:=c) ⟨c1,c2⟩]
    have a1 : -1000000000000≤a:=a1
    have a2:a≤1000000000000:=a2
    have b1 : -1000000000000≤b:=b1
    have b2:b≤1000000000000:=b2
    have c1 : -1000000000000≤c:=c1
    have c2:c≤1000000000000:=c2
    have hw : ∀ v∈[i+1,a+1,b+1,c+1],in64W v:=by
      intro v hv
      unfold in64W
      simp only[List.mem_cons,List.not_mem_nil,or_false]at hv
      omega
    refine intsN_wp (by simp) hw (by omega) ⟨show (n-(i+1)).toNat<(n-i).toNat by omega,wned ⟨⟨hn,show 0≤i+1 by omega,show i+1≤(l.length:Int) by omega,hl,?_⟩,hv⟩ hq⟩
    have:=intsS_size hw
    show ((s++intsS [i+1,a+1,b+1,c+1]).size:Int)+10000*((l.length:Int)-(i+1))≤100000000
    rw[ByteArray.size_append]
    simp only[List.length_cons,List.length_nil]at this
    omega
  · have hge:=of_decide_eq_false hge
    rw[strL_end esF s (by omega)]at hq
    exact hq
theorem gs_core (s : ByteArray) (l : List I3) (n i : Int) (Q : Exit × List Av × LSpec.Y spGs → Prop) (hq : (outGs (s, l, n, i, ()) ()).wp Q) : (gsR s l n i).wp fun r => match r with
      | .again x' y'=>(x'.2.2.1-x'.2.2.2.1).toNat<(n-i).toNat∧(outGs x' y').wp Q
      | .out e avs y'=>Q (e,avs,y'):=by
  obtain ⟨⟨⟨hn,i0,hi,hl,hs⟩,hv⟩,hq⟩:=hq
  have hn:n=(l.length:Int):=hn
  have i0:0≤i:=i0
  have hi:i≤(l.length:Int):=hi
  have hl:l.length≤1000:=hl
  have hv : ∀ p∈l,smP p:=hv
  have hs:(s.size:Int)+10000*((l.length:Int)-i)≤100000000:=hs
  have hq:Q (.exit 0,[.one (.v (.string (s++strL gsF (List.drop i.toNat l) i)))],()):=hq
  refine ⟨fun hlt=>?_,fun hge=>?_⟩
  · have hlt:=of_decide_eq_true hlt
    obtain ⟨p,hp⟩:=elem_at (l:=l) i0 (by omega)
    rw[strL_next gsF s i0 hp]at hq
    obtain ⟨a,b,c⟩:=p
    obtain ⟨⟨a1,a2⟩,⟨b1,b2⟩,⟨c1,c2⟩⟩:=hv _ (List.mem_of_getElem? hp)
    refine wget i0 hp ?_
    rw[wi1_eq (i:=i) (by omega),wi1_eq (i:=a) ⟨a1,a2⟩,wi1_eq (i:=b) ⟨b1,b2⟩]
    have a1 : -1000000000000≤a:=a1
    have a2:a≤1000000000000:=a2
    have b1 : -1000000000000≤b:=b1
    have b2:b≤1000000000000:=b2
    have c1 : -1000000000000≤c:=c1
    have c2:c≤1000000000000:=c2
    have hw : ∀ v∈[i+1,a+1,b+1,c],in64W v:=by
      intro v hv
      unfold in64W
      simp only[List.mem_cons,List.not_mem_nil,or_false]at hv
      omega
    refine intsN_wp (by simp) hw (by omega) ⟨show (n-(i+1)).toNat<(n-i).toNat by omega,wned ⟨⟨hn,show 0≤i+1 by omega,show i+1≤(l.length:Int) by omega,hl,?_⟩,hv⟩ hq⟩
    have:=intsS_size hw
    show ((s++intsS [i+1,a+1,b+1,c]).size:Int)+10000*((l.length:Int)-(i+1))≤100000000
    rw[ByteArray.size_append]
    simp only[List.length_cons,List.length_nil]at this
    omega
  · have hge:=of_decide_eq_false hge
    rw[strL_end gsF s (by omega)]at hq
    exact hq
theorem nsL_ok:LoopOk Tryz.prog 0 (bodyOf Tryz.f18 0) (spNs.run outNs):=
  loop_ok (E:=EW5) (L:=fun _=>none) mixed 0 (loops_none _ _ _) spNs (Nat.zero_le _) outNs (fun x _=>(x.2.2.1-x.2.2.2.1).toNat) (by
    rintro ⟨s,l,n,i,⟨⟩⟩ ⟨⟩ Q hq
    rw[tr_nsL_eq s l n i]
    exact ns_core s l n i Q hq)
theorem esL_ok:LoopOk Tryz.prog 0 (bodyOf Tryz.f19 0) (spEs.run outEs):=
  loop_ok (E:=EW5) (L:=fun _=>none) mixed 0 (loops_none _ _ _) spEs (Nat.zero_le _) outEs (fun x _=>(x.2.2.1-x.2.2.2.1).toNat) (by
    rintro ⟨s,l,n,i,⟨⟩⟩ ⟨⟩ Q hq
    rw[tr_esL_eq s l n i]
    exact es_core s l n i Q hq)
theorem gsL_ok:LoopOk Tryz.prog 0 (bodyOf Tryz.f20 0) (spGs.run outGs):=
  loop_ok (E:=EW5) (L:=fun _=>none) mixed 0 (loops_none _ _ _) spGs (Nat.zero_le _) outGs (fun x _=>(x.2.2.1-x.2.2.2.1).toNat) (by
    rintro ⟨s,l,n,i,⟨⟩⟩ ⟨⟩ Q hq
    rw[tr_gsL_eq s l n i]
    exact gs_core s l n i Q hq)
noncomputable def lpNs:Loops:=oneL 3 (spNs.run outNs)
noncomputable def lpEs:Loops:=oneL 3 (spEs.run outEs)
noncomputable def lpGs:Loops:=oneL 3 (spGs.run outGs)
def RoOk (k:Int) (p:Pt):Prop:=safeF 500 p.1=true∧safeF 500 p.2=true∧(decV p.1 k).size≤2000∧(decV p.2 k).size≤2000
def outRo (x:LSpec.X spRo) (y:LSpec.Y spRo):T (Exit×List Av×LSpec.Y spRo):=.need (StInv (α:=Pt) x.2.1 x.2.2.1 x.2.2.2.1 x.2.2.2.2.1 ∧ ∀ p∈(x.2.2.1:List Pt),RoOk x.1 p) (.ret (.exit 0,[.one (.v (.string (x.2.1++strL (roF x.1) (List.drop (Int.toNat x.2.2.2.2.1) (x.2.2.1:List Pt)) x.2.2.2.2.1)))],()))
theorem ro_core (k : Int) (s : ByteArray) (l : List Pt) (n i : Int) (Q : Exit × List Av × LSpec.Y spRo → Prop) (hq : (outRo (k, s, l, n, i, ()) ()).wp Q) : (roR k s l n i).wp fun r => match r with
      | .again x' y'=>(x'.2.2.2.1-x'.2.2.2.2.1).toNat<(n-i).toNat∧(outRo x' y').wp Q
      | .out e avs y'=>Q (e,avs,y'):=by
  obtain ⟨⟨⟨hn,i0,hi,hl,hs⟩,hv⟩,hq⟩:=hq
  have hn:n=(l.length:Int):=hn
  have i0:0≤i:=i0
  have hi:i≤(l.length:Int):=hi
  have hl:l.length≤1000:=hl
  have hv : ∀ p∈l,RoOk k p:=hv
  have hs:(s.size:Int)+10000*((l.length:Int)-i)≤100000000:=hs
  have hq:Q (.exit 0,[.one (.v (.string (s++strL (roF k) (List.drop i.toNat l) i)))],()):=hq
  refine ⟨fun hlt=>?_,fun hge=>?_⟩
  · have hlt:=of_decide_eq_true hlt
    obtain ⟨p,hp⟩:=elem_at (l:=l) i0 (by omega)
    rw[strL_next (roF k) s i0 hp]at hq
    obtain ⟨s1,s2,z1,z2⟩:=hv p (List.mem_of_getElem? hp)
    rw[wi1_eq (i:=i) (by omega)]
    have hw : ∀ w∈[itoaS (i+1),decV p.1 k,decV p.2 k],w.size≤2051:=fun w hw=>by
      rcases List.mem_cons.1 hw with rfl|hw
      · have:=itoaS_size (v:=i+1) (by unfold in64W;omega);omega
      · rcases List.mem_cons.1 hw with rfl|hw
        · omega
        · rcases List.mem_cons.1 hw with rfl|hw
          · omega
          · cases hw
    refine wget i0 hp (witf (by rw[s1];rfl) (witf (by rw[s2];rfl) (wned (by omega) (rowN_wp (by simp) hw (by omega) ⟨show (n-(i+1)).toNat<(n-i).toNat by omega,wned ⟨⟨hn,show 0≤i+1 by omega,show i+1≤(l.length:Int) by omega,hl,?_⟩,hv⟩ hq⟩))))
    have:=rowS_size 2051 _ hw
    show ((s++rowS [itoaS (i+1),decV p.1 k,decV p.2 k]).size:Int)+10000*((l.length:Int)-(i+1))≤100000000
    rw[ByteArray.size_append]
    simp only[List.length_cons,List.length_nil]at this
    omega
  · have hge:=of_decide_eq_false hge
    rw[strL_end (roF k) s (by omega)]at hq
    exact hq
theorem roL_ok:LoopOk Tryz.prog 0 (bodyOf Tryz.f10 0) (spRo.run outRo):=
  loop_ok (E:=EW5) (L:=fun _=>none) mixed 0 (loops_none _ _ _) spRo (Nat.zero_le _) outRo (fun x _=>(x.2.2.2.1-x.2.2.2.2.1).toNat) (by
    rintro ⟨k,s,l,n,i,⟨⟩⟩ ⟨⟩ Q hq
    rw[tr_roL_eq k s l n i]
    exact ro_core k s l n i Q hq)
noncomputable def lpRo:Loops:=oneL 3 (spRo.run outRo)
def hdN (hd:List Int) (K:ByteArray→T Av):T Av:=.need (List.length hd≤1000 ∧ ∀ v∈hd,in64W v) (K (intsS hd))
def sA (s:ByteArray):Av:=.one (.v (.string s))
def nsTree (l:List Pt):T Av:=hdN [(List.length l:Int),2,0,0] fun s=>.need (StInv s l (List.length l:Int) 0) (.ret (sA (s++strL nsF (List.drop (Int.toNat 0) l) 0)))
def esTree (l:List I3):T Av:=hdN [(List.length l:Int),3,0] fun s=>.need (StInv s l (List.length l:Int) 0 ∧ ∀ p∈l,smP p) (.ret (sA (s++strL esF (List.drop (Int.toNat 0) l) 0)))
def gsTree (l:List I3):T Av:=hdN [(List.length l:Int),1] fun s=>.need (StInv s l (List.length l:Int) 0 ∧ ∀ p∈l,smP p) (.ret (sA (s++strL gsF (List.drop (Int.toNat 0) l) 0)))
def roTree (l:List Pt) (k:Int):T Av:=hdN [(List.length l:Int),2,0,0] fun s=>.need (StInv s l (List.length l:Int) 0 ∧ ∀ p∈l,RoOk k p) (.ret (.tup [sA (s++strL (roF k) (List.drop (Int.toNat 0) l) 0),.one (.v (.bool true))]))
theorem tr_wNodes_eq (p:List Pt) (t e:List I3):fnP EW5 lpNs Tryz.f18 (encs [(true,cMesh)] ((p,t,e),()))=nsTree p:=by kernel_rfl
theorem tr_wEles_eq (p:List Pt) (t e:List I3):fnP EW5 lpEs Tryz.f19 (encs [(true,cMesh)] ((p,t,e),()))=esTree t:=by kernel_rfl
theorem tr_wEdges_eq (p:List Pt) (t e:List I3):fnP EW5 lpGs Tryz.f20 (encs [(true,cMesh)] ((p,t,e),()))=gsTree e:=by kernel_rfl
theorem tr_wRounded_eq (p:List Pt) (t e:List I3) (k:Int):fnP EW5 lpRo Tryz.f10 (encs [(true,cMesh),(false,.int .i64)] ((p,t,e),k,()))=roTree p k:=by kernel_rfl
def nodesS (l:List Pt):ByteArray:=intsS [(l.length:Int),2,0,0]++strL nsF l 0
def elesS (l:List I3):ByteArray:=intsS [(l.length:Int),3,0]++strL esF l 0
def edgesS (l:List I3):ByteArray:=intsS [(l.length:Int),1]++strL gsF l 0
def roundS (k:Int) (l:List Pt):ByteArray:=intsS [(l.length:Int),2,0,0]++strL (roF k) l 0
theorem hd_in {n:Nat} {r:List Int} (hn:n≤1000) (hr : ∀ v∈r,0≤v∧v≤3) (hl:r.length≤3):(((n:Int)::r).length≤1000 ∧ ∀ v∈((n:Int)::r),in64W v)∧(intsS ((n:Int)::r)).size≤1000:=by
  have h : ∀ v∈((n:Int)::r),in64W v:=fun v hv=>by
    unfold in64W
    rcases List.mem_cons.1 hv with rfl|hv
    · omega
    · have:=hr v hv;omega
  have:=intsS_size h
  simp only[List.length_cons]at this ⊢
  exact ⟨⟨by omega,h⟩,by omega⟩
theorem st_in {α:Type} {s:ByteArray} {l:List α} (hl:l.length≤1000) (hs:s.size≤1000):StInv s l (List.length l:Int) 0:=⟨rfl,Int.le_refl 0,by omega,hl,by omega⟩
theorem r2 : ∀ v∈[(2:Int),0,0],0≤v∧v≤3:=by decide
theorem r3 : ∀ v∈[(3:Int),0],0≤v∧v≤3:=by decide
theorem r1 : ∀ v∈[(1:Int)],0≤v∧v≤3:=by decide
noncomputable def con_wNodes:Con Tryz.prog:=⟨18,[],_,cf_wNodes,val_con (E:=EW5) (L:=lpNs) mixed Tryz.func18 (one_loop nsL_ok (by kernel_rfl)) [(true,cMesh)] (fun x=>List.length x.1.1≤1000) (fun x=>sA (nodesS x.1.1)) fun x hx=>by
  obtain ⟨⟨p,t,e⟩,u⟩:=x
  have hx:p.length≤1000:=hx
  rw[show fnP EW5 lpNs Tryz.f18 (encs [(true,cMesh)] ((p,t,e),u))=nsTree p from tr_wNodes_eq p t e]
  obtain ⟨h1,h2⟩:=hd_in hx r2 (by decide)
  exact wned h1 (wned (st_in hx h2) rfl)⟩
noncomputable def con_wEles:Con Tryz.prog:=⟨19,[],_,cf_wEles,val_con (E:=EW5) (L:=lpEs) mixed Tryz.func19 (one_loop esL_ok (by kernel_rfl)) [(true,cMesh)] (fun x=>List.length x.1.2.1≤1000 ∧ ∀ p∈(x.1.2.1:List I3),smP p) (fun x=>sA (elesS x.1.2.1)) fun x hx=>by
  obtain ⟨⟨p,t,e⟩,u⟩:=x
  have h0:t.length≤1000:=hx.1
  have hv : ∀ p∈t,smP p:=hx.2
  rw[show fnP EW5 lpEs Tryz.f19 (encs [(true,cMesh)] ((p,t,e),u))=esTree t from tr_wEles_eq p t e]
  obtain ⟨h1,h2⟩:=hd_in h0 r3 (by decide)
  exact wned h1 (wned ⟨st_in h0 h2,hv⟩ rfl)⟩
noncomputable def con_wEdges:Con Tryz.prog:=⟨20,[],_,cf_wEdges,val_con (E:=EW5) (L:=lpGs) mixed Tryz.func20 (one_loop gsL_ok (by kernel_rfl)) [(true,cMesh)] (fun x=>List.length x.1.2.2≤1000 ∧ ∀ p∈(x.1.2.2:List I3),smP p) (fun x=>sA (edgesS x.1.2.2)) fun x hx=>by
  obtain ⟨⟨p,t,e⟩,u⟩:=x
  have h0:e.length≤1000:=hx.1
  have hv : ∀ p∈e,smP p:=hx.2
  rw[show fnP EW5 lpGs Tryz.f20 (encs [(true,cMesh)] ((p,t,e),u))=gsTree e from tr_wEdges_eq p t e]
  obtain ⟨h1,h2⟩:=hd_in h0 r1 (by decide)
  exact wned h1 (wned ⟨st_in h0 h2,hv⟩ rfl)⟩
noncomputable def con_wRounded:Con Tryz.prog:=⟨10,[],_,cf_wRounded,val_con (E:=EW5) (L:=lpRo) mixed Tryz.func10 (one_loop roL_ok (by kernel_rfl)) [(true,cMesh),(false,.int .i64)] (fun x=>List.length x.1.1≤1000 ∧ ∀ p∈(x.1.1:List Pt),RoOk x.2.1 p) (fun x=>.tup [sA (roundS x.2.1 x.1.1),.one (.v (.bool true))]) fun x hx=>by
  obtain ⟨⟨p,t,e⟩,k,u⟩:=x
  have h0:p.length≤1000:=hx.1
  have hv : ∀ q∈p,RoOk k q:=hx.2
  rw[show fnP EW5 lpRo Tryz.f10 (encs [(true,cMesh),(false,.int .i64)] ((p,t,e),k,u))=roTree p k from tr_wRounded_eq p t e k]
  obtain ⟨h1,h2⟩:=hd_in h0 r2 (by decide)
  exact wned h1 (wned ⟨st_in h0 h2,hv⟩ rfl)⟩
noncomputable def EW6:Env Tryz.prog:=EW5.add [con_wread,con_wNodes,con_wEles,con_wEdges,con_wRounded]
def eqFw (v x:F):Bool:=v.1.1==x.1.1&&(v.1.2.1==x.1.2.1&&true)&&(v.2.1==x.2.1&&(v.2.2.1==x.2.2.1&&true)&&true)
def eqPw (u v:Pt):Bool:=eqFw u.1 v.1&&(eqFw u.2 v.2&&true)
def eqIw (u v:I3):Bool:=u.1==v.1&&(u.2.1==v.2.1&&(u.2.2==v.2.2&&true))
abbrev spS (k:Nat):LSpec:=⟨87,[(k,false,.int .i64)],[(2,0,0),(3,1,0)],[(41,cMesh),(41,cMesh)],fun e=>match e with|.ret=>[4]|_=>[]⟩
def smR (k x:Nat) {α:Type} (p q:List α) (eqv:α→α→Bool) (a b:Mesh) (i:Int):T (Rd (spS k)):=.ite (decide (i<(List.length p:Int))) (.get p i fun u=>.get q i fun v=>.ite (!eqv u v) (.ret (.out Exit.ret [.one (.v (.bool false))] (a,b,()))) (.ret (.again (wi1 i,()) (a,b,())))) (.ret (.out (Exit.exit x) [] (a,b,())))
theorem tr_sm0_eq (a b:Mesh) (i:Int):LSpec.round (spS 5) EW6 (fun _=>none) (bodyOf Tryz.f22 0) (i,()) (a,b,())=smR 5 0 a.1 b.1 eqPw a b i:=by kernel_rfl
theorem tr_sm1_eq (a b:Mesh) (i:Int):LSpec.round (spS 6) EW6 (fun _=>none) (bodyOf Tryz.f22 1) (i,()) (a,b,())=smR 6 2 a.2.1 b.2.1 eqIw a b i:=by kernel_rfl
theorem tr_sm2_eq (a b:Mesh) (i:Int):LSpec.round (spS 7) EW6 (fun _=>none) (bodyOf Tryz.f22 2) (i,()) (a,b,())=smR 7 4 a.2.2 b.2.2 eqIw a b i:=by kernel_rfl
theorem eqW_iff (v x:W):(v.1==x.1&&(v.2.1==x.2.1&&true))=true↔v=x:=by
  obtain ⟨a,b⟩:=v
  obtain ⟨c,d⟩:=x
  rw[Bool.and_true,Bool.and_eq_true,beq_iff_eq,beq_iff_eq,Prod.mk.injEq]
  exact ⟨fun h=>⟨h.1,Subtype.ext h.2⟩,fun h=>⟨h.1,congrArg Subtype.val h.2⟩⟩
theorem eqFw_iff (v x:F):eqFw v x=true↔v=x:=by
  obtain ⟨a,b⟩:=v
  obtain ⟨c,d⟩:=x
  unfold eqFw
  rw[Bool.and_eq_true,Bool.and_true (_&&_),Prod.mk.injEq]
  exact and_congr (eqW_iff a c) (eqW_iff b d)
theorem eqPw_iff (u v:Pt):eqPw u v=true↔u=v:=by
  obtain ⟨a,b⟩:=u
  obtain ⟨c,d⟩:=v
  unfold eqPw
  rw[Bool.and_eq_true,Bool.and_true,Prod.mk.injEq]
  exact and_congr (eqFw_iff a c) (eqFw_iff b d)
theorem eqIw_iff (u v:I3):eqIw u v=true↔u=v:=by
  obtain ⟨a,b,c⟩:=u
  obtain ⟨d,e,f⟩:=v
  unfold eqIw
  simp[Prod.mk.injEq]
instance:DecidableEq Pt:=inferInstanceAs (DecidableEq ((((Bool×Amt)×(Bool×Amt))×((Bool×Amt)×(Bool×Amt)))))
def outS (k x:Nat) {α:Type} [DecidableEq α] (p q:Mesh→List α) (X:LSpec.X (spS k)) (y:LSpec.Y (spS k)):T (Exit×List Av×LSpec.Y (spS k)):=
  .need (0≤(X.1:Int)∧(p y.1).length=(q y.2.1).length∧(p y.1).length≤1000000) (.ite (decide ((p y.1).drop (Int.toNat X.1)=(q y.2.1).drop (Int.toNat X.1))) (.ret (.exit x,[],y)) (.ret (.ret,[.one (.v (.bool false))],y)))
theorem sm_core (k x : Nat) {α : Type} [DecidableEq α] (p q : Mesh → List α) (eqv : α → α → Bool) (he : ∀ u v, eqv u v = true ↔ u = v) (a b : Mesh) (i : Int) (Q : Exit × List Av × LSpec.Y (spS k) → Prop) (hq : (outS k x p q (i, ()) (a, b, ())).wp Q) : (smR k x (p a) (q b) eqv a b i).wp fun r => match r with
      | .again x' y'=>((p y'.1).length-Int.toNat x'.1)<(p a).length-i.toNat∧(outS k x p q x' y').wp Q
      | .out e avs y'=>Q (e,avs,y'):=by
  obtain ⟨⟨i0,hl,hm⟩,hy,hz⟩:=hq
  have i0:0≤i:=i0
  have hl:(p a).length=(q b).length:=hl
  have hm:(p a).length≤1000000:=hm
  have hy:decide ((p a).drop i.toNat=(q b).drop i.toNat)=true→Q (.exit x,[],(a,b,())):=hy
  have hz:decide ((p a).drop i.toNat=(q b).drop i.toNat)=false→Q (.ret,[.one (.v (.bool false))],(a,b,())):=hz
  refine ⟨fun hlt=>?_,fun hge=>?_⟩
  · have hlt:=of_decide_eq_true hlt
    obtain ⟨u,hu⟩:=elem_at (l:=p a) i0 hlt
    obtain ⟨v,hv⟩:=elem_at (l:=q b) i0 (by omega)
    rw[drop_at i0 hu,drop_at i0 hv]at hy hz
    refine wget i0 hu (wget i0 hv ⟨fun h=>hz ?_,fun h=>?_⟩)
    · have h:eqv u v=false:=by simpa using h
      rw[decide_eq_false_iff_not]
      intro e
      have:=(he u v).2 (List.cons.inj e).1
      rw[this]at h;cases h
    · have h:eqv u v=true:=by simpa using h
      have h:=(he u v).1 h
      subst h
      have e:decide (u::(p a).drop (i+1).toNat=u::(q b).drop (i+1).toNat)=decide ((p a).drop (i+1).toNat=(q b).drop (i+1).toNat):=by
        rw[decide_eq_decide];simp
      rw[e]at hy hz
      rw[wi1_eq (i:=i) (by omega)]
      exact ⟨show (p a).length-(i+1).toNat<(p a).length-i.toNat by omega,wned ⟨show 0≤i+1 by omega,hl,hm⟩ ⟨hy,hz⟩⟩
  · have hge:=of_decide_eq_false hge
    rw[drop_end (by omega),drop_end (by omega)]at hy
    exact hy (decide_eq_true rfl)
theorem sm0_ok:LoopOk Tryz.prog 0 (bodyOf Tryz.f22 0) ((spS 5).run (outS 5 0 (fun m=>m.1) (fun m=>m.1))):=
  loop_ok (E:=EW6) (L:=fun _=>none) mixed 0 (loops_none _ _ _) (spS 5) (Nat.zero_le _) (outS 5 0 (fun m=>m.1) (fun m=>m.1)) (fun x y=>(y.1.1.length-Int.toNat x.1)) (by
    rintro ⟨i,⟨⟩⟩ ⟨a,b,⟨⟩⟩ Q hq
    rw[tr_sm0_eq a b i]
    exact sm_core 5 0 (fun m=>m.1) (fun m=>m.1) eqPw eqPw_iff a b i Q hq)
theorem sm1_ok:LoopOk Tryz.prog 0 (bodyOf Tryz.f22 1) ((spS 6).run (outS 6 2 (α:=I3) (fun m=>m.2.1) (fun m=>m.2.1))):=
  loop_ok (E:=EW6) (L:=fun _=>none) mixed 0 (loops_none _ _ _) (spS 6) (Nat.zero_le _) (outS 6 2 (α:=I3) (fun m=>m.2.1) (fun m=>m.2.1)) (fun x y=>(y.1.2.1.length-Int.toNat x.1)) (by
    rintro ⟨i,⟨⟩⟩ ⟨a,b,⟨⟩⟩ Q hq
    rw[tr_sm1_eq a b i]
    exact sm_core 6 2 (α:=I3) (fun m=>m.2.1) (fun m=>m.2.1) eqIw eqIw_iff a b i Q hq)
theorem sm2_ok:LoopOk Tryz.prog 0 (bodyOf Tryz.f22 2) ((spS 7).run (outS 7 4 (α:=I3) (fun m=>m.2.2) (fun m=>m.2.2))):=
  loop_ok (E:=EW6) (L:=fun _=>none) mixed 0 (loops_none _ _ _) (spS 7) (Nat.zero_le _) (outS 7 4 (α:=I3) (fun m=>m.2.2) (fun m=>m.2.2)) (fun x y=>(y.1.2.2.length-Int.toNat x.1)) (by
    rintro ⟨i,⟨⟩⟩ ⟨a,b,⟨⟩⟩ Q hq
    rw[tr_sm2_eq a b i]
    exact sm_core 7 4 (α:=I3) (fun m=>m.2.2) (fun m=>m.2.2) eqIw eqIw_iff a b i Q hq)
noncomputable def lpSm:Loops:=manyL [(4,(spS 5).run (outS 5 0 (fun m=>m.1) (fun m=>m.1))),(9,(spS 6).run (outS 6 2 (α:=I3) (fun m=>m.2.1) (fun m=>m.2.1))),(14,(spS 7).run (outS 7 4 (α:=I3) (fun m=>m.2.2) (fun m=>m.2.2)))]
def smF:T Av:=.ret (.one (.v (.bool false)))
def smL {α:Type} [DecidableEq α] (p q:List α) (K:T Av):T Av:=.need ((0:Int)≤0∧p.length=q.length∧p.length≤1000000) (.ite (decide (p.drop (Int.toNat 0)=q.drop (Int.toNat 0))) K smF)
def smTree (a b:Mesh):T Av:=.ite ((List.length a.1:Int) != (List.length b.1:Int)) smF (.ite ((List.length a.2.1:Int) != (List.length b.2.1:Int)) smF (.ite ((List.length a.2.2:Int) != (List.length b.2.2:Int)) smF
  (smL (α:=Pt) a.1 b.1 (smL (α:=I3) a.2.1 b.2.1 (smL (α:=I3) a.2.2 b.2.2 (.ret (.one (.v (.bool true)))))))))
theorem tr_same_eq' (a b:Mesh):fnP EW6 lpSm Tryz.f22 (encs [(true,cMesh),(true,cMesh)] (a,b,()))=smTree a b:=by kernel_rfl
def meshFit (a:Mesh):Prop:=a.1.length≤1000000∧a.2.1.length≤1000000∧a.2.2.length≤1000000
instance:DecidableEq Mesh:=inferInstanceAs (DecidableEq (List Pt×List I3×List I3))
theorem smL_wp {α:Type} [DecidableEq α] {p q:List α} {K:T Av} {Q:Av→Prop} (hl:((p.length:Int) != (q.length:Int))=false) (hm:p.length≤1000000) (h1:p=q→K.wp Q) (h2:p≠q→Q (.one (.v (.bool false)))):(smL p q K).wp Q:=by
  have hl : p.length = q.length := by have : (p.length : Int) = q.length := by simpa using hl
                                      omega
  exact wned ⟨Int.le_refl 0,hl,hm⟩ ⟨fun h=>h1 (of_decide_eq_true h),fun h=>h2 (of_decide_eq_false h)⟩
noncomputable def con_wsame:Con Tryz.prog:=⟨22,[],_,cf_wsame,val_con (E:=EW6) (L:=lpSm) mixed Tryz.func22 (many_loops (by kernel_rfl) (by simp) (fun i p hp=>by
    match i,hp with
    | 0,hp=>cases hp;exact sm0_ok
    | 1,hp=>cases hp;exact sm1_ok
    | 2,hp=>cases hp;exact sm2_ok
    | i+3,hp=>simp at hp)) [(true,cMesh),(true,cMesh)] (fun x=>meshFit x.1) (fun x=>.one (.v (.bool (decide ((x.1:Mesh)=x.2.1))))) fun x hx=>by
  obtain ⟨a,b,u⟩:=x
  have hx:meshFit a:=hx
  rw[show fnP EW6 lpSm Tryz.f22 (encs [(true,cMesh),(true,cMesh)] (a,b,u))=smTree a b from tr_same_eq' a b]
  show (smTree a b).wp (· = .one (.v (.bool (decide ((a:Mesh)=b)))))
  have no:¬ a=b→smF.wp (· = .one (.v (.bool (decide ((a:Mesh)=b))))):=fun h=>by
    rw[decide_eq_false h];rfl
  obtain ⟨p,t,e⟩:=a
  obtain ⟨p',t',e'⟩:=b
  obtain ⟨h1,h2,h3⟩:=hx
  refine ⟨fun h=>no fun e=>?_,fun l1=>⟨fun h=>no fun e=>?_,fun l2=>⟨fun h=>no fun e=>?_,fun l3=>smL_wp l1 h1 (fun e1=>smL_wp l2 h2 (fun e2=>smL_wp l3 h3 (fun e3=>?_) fun e3=>no fun e=>e3 ?_) fun e2=>no fun e=>e2 ?_) fun e1=>no fun e=>e1 ?_⟩⟩⟩
  · rw[e]at h;simp at h
  · rw[e]at h;simp at h
  · rw[e]at h;simp at h
  · have e1:p=p':=e1
    have e2:t=t':=e2
    have e3:e=e':=e3
    subst e1;subst e2;subst e3
    rw[decide_eq_true rfl];rfl
  · exact congrArg (·.2.2) e
  · exact congrArg (·.2.1) e
  · exact congrArg (·.1) e⟩
theorem cf_ptNew (xs:Array Value) (w:World):(callFunc 33 xs).run Tryz.prog w=.ok (.enter 33 xs) w:=by kernel_rfl
theorem cf_ptOf (xs:Array Value) (w:World):(callFunc 9 xs).run Tryz.prog w=.ok (.enter 9 xs) w:=by kernel_rfl
theorem cf_ptAt (xs:Array Value) (w:World):(callFunc 32 xs).run Tryz.prog w=.ok (.enter 32 xs) w:=by kernel_rfl
noncomputable def pcNeg:PCon EW6.con:=⟨67,[(true,cW)],fun x=>.ret (aB (x.1.1&&decide (x.1.2.1≠0))),⟨con_pneg,rfl,rfl,rfl⟩⟩
noncomputable def pcOf:PCon EW6.con:=⟨41,[(true,cW)],fun x=>.ret (.one (.ds (.int .u32) (mg x.1.2.1))),⟨con_pof,rfl,rfl,rfl⟩⟩
noncomputable def pcRat:PCon EW6.con:=⟨66,[(false,.bool),(false,.sl (.int .u32)),(false,.sl (.int .u32))],fun x=>.need ((x.2.1:List Int)=mg (valL x.2.1)∧(x.2.2.1:List Int)=mg (valL x.2.2.1)∧valL x.2.1<Pq.bp 32∧valL x.2.2.1<Pq.bp 32∧valL x.2.2.1≠0) (.ret (.tup [.agg (ck cF (rOf (Rat.divInt (Pq.zv x.1 (valL x.2.1)) (valL x.2.2.1:Nat)))),aB true])),⟨con_prat,rfl,rfl,rfl⟩⟩
noncomputable def ONwW:Opt EW6.con:=⟨[pcNeg,pcOf,pcRat],[],fun _=>none⟩
def noR:T Av:=.ret (.tup [.agg (ck cF (zE cF)),aB false])
def ratT (b:Bool) (l r:List Int):T Av:=.need (l=mg (valL l)∧r=mg (valL r)∧valL l<Pq.bp 32∧valL r<Pq.bp 32∧valL r≠0) (.ret (.tup [.agg (ck cF (rOf (Rat.divInt (Pq.zv b (valL l)) (valL r:Nat)))),aB true]))
def nwTree (x y:W):T Av:=.ite (!isW x) noR (.ite (!isW y) noR (.ite (decide ((Pq.bitn x.2.1:Int)>1023)) noR (.ite (decide ((Pq.bitn y.2.1:Int)>1023)) noR (.ite (decide ((Pq.bitn y.2.1:Int)=0)) noR
  (ratT ((x.1&&decide (x.2.1≠0)) != (y.1&&decide (y.2.1≠0))) (mg x.2.1) (mg y.2.1))))))
theorem tr_nw_eq (x y:W):fnPC ONwW EW6 (fun _=>none) Tryz.f33 (encs [(true,cW),(true,cW)] (x,y,()))=nwTree x y:=by kernel_rfl
def sg (n:Int):Prop:=n.natAbs<4611686018427387904
theorem sg_big {n:Int} (h:sg n):n.natAbs<2^62:=by
  have:(2:Nat)^62=4611686018427387904:=by decide
  unfold sg at h
  omega
theorem sg_bp {n:Int} (h:sg n):n.natAbs<Pq.bp 32:=(big_b (pow_to (j:=62) (k:=1001) (sg_big h) (by decide))).1
theorem sg_w {n:Int} (h:sg n):wOf n=(decide (n<0),⟨n.natAbs,sg_bp h⟩):=by
  unfold wOf
  rw[dif_pos (sg_bp h)]
theorem sg_is {n:Int} (h:sg n):isW (wOf n)=true:=by
  rw[isW_iff,sg_w h]
  rintro ⟨h1,h2⟩
  have h1:n<0:=of_decide_eq_true h1
  have h2:n.natAbs=0:=h2
  omega
theorem sg_zv {n:Int}:Pq.zv (decide (n<0)&&decide (n.natAbs≠0)) n.natAbs=n:=by
  unfold Pq.zv
  by_cases h:n<0
  · have:n.natAbs≠0:=by omega
    simp[h,this]
    omega
  · simp[h]
    omega
theorem nwZ_ok {n d:Int} (hn:sg n) (hd:sg d) (h1:1≤d):(nwTree (wOf n) (wOf d)).wp (· = .tup [.agg (ck cF (rOf (Rat.divInt n d))),aB true]):=by
  have z1:=sg_is hn
  have z2:=sg_is hd
  have b1:=Pq.bitn_le.2 (sg_big hn)
  have b2:=Pq.bitn_le.2 (sg_big hd)
  have b3:Pq.bitn d.natAbs≠0:=fun e=>by
    have:=Pq.bitn_eq0.1 e
    omega
  have l1:=sg_bp hn
  have l2:=sg_bp hd
  have e2:((d.natAbs:Nat):Int)=d:=by omega
  have e3:decide (d<0)=false:=decide_eq_false (by omega)
  unfold nwTree
  refine witf (by rw[z1];rfl) (witf (by rw[z2];rfl) ?_)
  rw[sg_w hn,sg_w hd]
  refine witf (decide_eq_false ?_) (witf (decide_eq_false ?_) (witf (decide_eq_false ?_) ?_))
  · show ¬ ((Pq.bitn n.natAbs:Int)>1023);omega
  · show ¬ ((Pq.bitn d.natAbs:Int)>1023);omega
  · show ¬ ((Pq.bitn d.natAbs:Int)=0);omega
  · show (ratT ((decide (n<0)&&decide (n.natAbs≠0)) != (decide (d<0)&&decide (d.natAbs≠0))) (mg n.natAbs) (mg d.natAbs)).wp _
    rw[e3,Bool.false_and,Bool.bne_false]
    unfold ratT
    rw[val_mg,val_mg,sg_zv,e2]
    exact wned ⟨rfl,rfl,l1,l2,by omega⟩ rfl
noncomputable def con_ptNewZ:Con Tryz.prog:=⟨33,[],_,cf_ptNew,con_okC (O:=ONwW) (E:=EW6) (L:=fun _=>none) rfl mixed Tryz.func33 no_loops [(true,cW),(true,cW)]
  (fun x=>.need (∃ n d,sg n∧sg d∧1≤d∧x.1=wOf n∧x.2.1=wOf d) (.ret (.tup [.agg (ck cF (rOf (Rat.divInt (zW x.1) (zW x.2.1)))),aB true]))) fun x Q hq=>by
  obtain ⟨a,b,u⟩:=x
  obtain ⟨⟨n,d,hn,hd,h0,h1,h2⟩,hq⟩:=hq
  have h1:a=wOf n:=h1
  have h2:b=wOf d:=h2
  subst h1
  subst h2
  have hq:Q (.tup [.agg (ck cF (rOf (Rat.divInt (zW (wOf n)) (zW (wOf d))))),aB true]):=hq
  rw[zW_wOf (sg_bp hn),zW_wOf (sg_bp hd)]at hq
  exact ⟨_,tr_nw_eq _ _,T.wp_mono (fun v hv=>by rw[hv];exact hq) (nwZ_ok hn hd h0)⟩⟩
noncomputable def EWQ:Env Tryz.prog:=EW6.add [con_ptNewZ]
def nwPreZ (x y:W):Prop := ∃ n d,sg n∧sg d∧1≤d∧x=wOf n∧y=wOf d
def ofZ (n d:Int):T Av:=.need (in64 n) (.need (in64 d) (.need (nwPreZ (wOf n) (wOf d)) (.ret (.tup [.agg (ck cF (rOf (Rat.divInt (zW (wOf n)) (zW (wOf d))))),aB true]))))
noncomputable def OQZ:Opt EWQ.con:=⟨[],[],fun _=>none⟩
theorem tr_ptOfZ_eq (n d:Int):fnPC OQZ EWQ (fun _=>none) Tryz.f9 (encs [(false,.int .i64),(false,.int .i64)] (n,d,()))=ofZ n d:=by kernel_rfl
theorem in64_sg {n:Int} (h:sg n):in64 n:=by
  unfold sg at h
  unfold in64
  omega
noncomputable def con_ptOfZ:Con Tryz.prog:=⟨9,[],_,cf_ptOf,val_conC (O:=OQZ) (E:=EWQ) (L:=fun _=>none) rfl mixed Tryz.func9 no_loops [(false,.int .i64),(false,.int .i64)]
  (fun x=>sg x.1∧sg x.2.1∧1≤x.2.1) (fun x=>.tup [.agg (ck cF (rOf (Rat.divInt x.1 x.2.1))),aB true]) (fun x=>ofZ x.1 x.2.1) (fun x=>tr_ptOfZ_eq x.1 x.2.1) fun x h=>by
    obtain ⟨hn,hd,h1⟩:=h
    unfold ofZ
    rw[zW_wOf (sg_bp hn),zW_wOf (sg_bp hd)]
    exact wned (in64_sg hn) (wned (in64_sg hd) (wned ⟨_,_,hn,hd,h1,rfl,rfl⟩ rfl))⟩
def rIw (z:Int):F:=(wOf z,wOf 1)
noncomputable def OGw:Opt EW6.con:=⟨[],[],fun _=>none⟩
theorem tr_ptAt_eq (x y:Int):fnPC OGw EW6 (fun _=>none) Tryz.f32 (encs [(false,.int .i64),(false,.int .i64)] (x,y,()))=.need (in64 x) (.need (in64 y) (.ret (.agg (ck cP (rIw x,rIw y))))):=by kernel_rfl
noncomputable def con_ptAt:Con Tryz.prog:=⟨32,[],_,cf_ptAt,val_conC (O:=OGw) (E:=EW6) (L:=fun _=>none) rfl mixed Tryz.func32 no_loops [(false,.int .i64),(false,.int .i64)]
  (fun x=>in64 x.1∧in64 x.2.1) (fun x=>.agg (ck cP (rIw x.1,rIw x.2.1))) (fun x=>.need (in64 x.1) (.need (in64 x.2.1) (.ret (.agg (ck cP (rIw x.1,rIw x.2.1)))))) (fun x=>tr_ptAt_eq x.1 x.2.1) fun x h=>wned h.1 (wned h.2 rfl)⟩
noncomputable def EW7:Env Tryz.prog:=EW6.add [con_ptOfZ,con_ptAt,con_wsame]
theorem cf_wknown (xs:Array Value) (w:World):(callFunc 8 xs).run Tryz.prog w=.ok (.enter 8 xs) w:=by kernel_rfl
noncomputable def EWK:Env Tryz.prog:=⟨EW7.con,EW7.zero,EW7.cod,fun id=>id==7,EW7.base,EW7.frz⟩
noncomputable def pcAtW:PCon EWK.con:=⟨32,[(false,.int .i64),(false,.int .i64)],fun x=>.need (in64 x.1∧in64 x.2.1) (.ret (.agg (ck cP (rIw x.1,rIw x.2.1)))),⟨con_ptAt,rfl,rfl,rfl⟩⟩
noncomputable def pcNoW:PCon EWK.con:=⟨18,[(true,cMesh)],fun x=>.need (List.length x.1.1≤1000) (.ret (sA (nodesS x.1.1))),⟨con_wNodes,rfl,rfl,rfl⟩⟩
noncomputable def pcElW:PCon EWK.con:=⟨19,[(true,cMesh)],fun x=>.need (List.length x.1.2.1≤1000 ∧ ∀ p∈(x.1.2.1:List I3),smP p) (.ret (sA (elesS x.1.2.1))),⟨con_wEles,rfl,rfl,rfl⟩⟩
noncomputable def pcEgW:PCon EWK.con:=⟨20,[(true,cMesh)],fun x=>.need (List.length x.1.2.2≤1000 ∧ ∀ p∈(x.1.2.2:List I3),smP p) (.ret (sA (edgesS x.1.2.2))),⟨con_wEdges,rfl,rfl,rfl⟩⟩
noncomputable def OWK:Opt EWK.con:=⟨[pcAtW,pcNoW,pcElW,pcEgW],[],fun _=>none⟩
def kq (b:Bool) (K:T Av):T Av:=.need (b=true) K
noncomputable def hfK:F:=rOf (Rat.divInt 1 2)
noncomputable def meK:Mesh:=([(rIw 0,rIw 0),(hfK,hfK)],[((0:Int),(1:Int),(0:Int))],[((0:Int),(1:Int),(7:Int))])
def sz3 (a b c:ByteArray):Prop:=a.size≤900000∧b.size≤900000∧c.size≤900000
noncomputable def knC (a b c r:ByteArray):T Av:=.need (sz3 a b c) (.need (sz3 a b ⟨#[]⟩)
  (kq (a.toList==(ByteArray.mk #[50,32,50,32,48,32,48,10,49,32,48,32,48,10,50,32,49,47,50,32,49,47,50,10]).toList)
  (kq (b.toList==(ByteArray.mk #[49,32,51,32,48,10,49,32,49,32,50,32,49,10]).toList)
  (kq (c.toList==(ByteArray.mk #[49,32,49,10,49,32,49,32,50,32,55,10]).toList)
  (kq true (kq (r.toList==(ByteArray.mk #[50,32,50,32,48,32,48,10,49,32,48,46,48,32,48,46,48,10,50,32,48,46,53,32,48,46,53,10]).toList)
  (kq ((rdM a b c).2==0) (.need (meshFit (rdM a b c).1) (kq (decide ((rdM a b c).1=meK)) (.ret (.one (.v (.bool ((rdM a b ⟨#[]⟩).2==3))))))))))))))
def k2b (I:Prop) (K:T Av):T Av:=.and (.need I (.need (True∧True∧True) K)) (.need I K)
def k2a (I:Prop) (K:T Av):T Av:=.and (.need I (.need (True∧True∧True∧True) K)) (.and (k2b I K) (k2b I K))
noncomputable def knW:T Av:=.need (sg 1∧sg 2∧(1:Int)≤2) (k2a (in64 0∧in64 0) (.need (List.length meK.1≤1000) (.need (List.length meK.2.1≤1000 ∧ ∀ p∈meK.2.1,smP p) (.need (List.length meK.2.2≤1000 ∧ ∀ p∈meK.2.2,smP p) (.need (List.length meK.1≤1000 ∧ ∀ p∈meK.1,RoOk 1 p)
  (knC (nodesS meK.1) (elesS meK.2.1) (edgesS meK.2.2) (roundS 1 meK.1)))))))
theorem tr_wknown_eq:fnPC OWK EWK (fun _=>none) Tryz.f8 (encs [] ())=knW:=by kernel_rfl
def txA:ByteArray:=⟨#[50,32,50,32,48,32,48,10,49,32,48,32,48,10,50,32,49,47,50,32,49,47,50,10]⟩
def txB:ByteArray:=⟨#[49,32,51,32,48,10,49,32,49,32,50,32,49,10]⟩
def txC:ByteArray:=⟨#[49,32,49,10,49,32,49,32,50,32,55,10]⟩
def txR:ByteArray:=⟨#[50,32,50,32,48,32,48,10,49,32,48,46,48,32,48,46,48,10,50,32,48,46,53,32,48,46,53,10]⟩
theorem txA_eq:nodesS meK.1=txA:=by kernel_rfl
theorem txB_eq:elesS meK.2.1=txB:=by kernel_rfl
theorem txC_eq:edgesS meK.2.2=txC:=by kernel_rfl
theorem txR_eq:roundS 1 meK.1=txR:=by kernel_rfl
theorem txA_l:linesOf txA=[(1,[⟨#[50]⟩,⟨#[50]⟩,⟨#[48]⟩,⟨#[48]⟩]),(2,[⟨#[49]⟩,⟨#[48]⟩,⟨#[48]⟩]),(3,[⟨#[50]⟩,⟨#[49,47,50]⟩,⟨#[49,47,50]⟩])]:=by
  rw[linesOf_lf]
  kernel_rfl
theorem txB_l:linesOf txB=[(1,[⟨#[49]⟩,⟨#[51]⟩,⟨#[48]⟩]),(2,[⟨#[49]⟩,⟨#[49]⟩,⟨#[50]⟩,⟨#[49]⟩])]:=by
  rw[linesOf_lf]
  kernel_rfl
theorem txC_l:linesOf txC=[(1,[⟨#[49]⟩,⟨#[49]⟩]),(2,[⟨#[49]⟩,⟨#[49]⟩,⟨#[50]⟩,⟨#[55]⟩])]:=by
  rw[linesOf_lf]
  kernel_rfl
theorem txE_l:linesOf ⟨#[]⟩=[]:=by
  rw[linesOf_lf]
  kernel_rfl
theorem kn_n:nodesR txA=(meK.1,([],false)):=by
  unfold nodesR tabN tabT tabW
  rw[txA_l]
  kernel_rfl
theorem kn_e:elesR txB 2=(meK.2.1,([],false)):=by
  unfold elesR tabN tabT tabW
  rw[txB_l]
  kernel_rfl
theorem kn_g:edgesR txC 2=(meK.2.2,([],false)):=by
  unfold edgesR tabN tabT tabW
  rw[txC_l]
  kernel_rfl
theorem kn_b:wendB (edgesR ⟨#[]⟩ 2).2=false:=by
  unfold edgesR tabN tabT tabW
  rw[txE_l]
  kernel_rfl
theorem kn_l:nLen txA=2:=by unfold nLen;rw[kn_n];rfl
theorem kn_r:rdM txA txB txC=(meK,0):=by
  unfold rdM
  rw[kn_l,kn_n,kn_e,kn_g]
  rfl
theorem kn_z:(rdM txA txB ⟨#[]⟩).2=3:=by
  unfold rdM
  rw[kn_l,kn_n,kn_e,kn_b]
  rfl
theorem ro_0:RoOk 1 (rIw 0,rIw 0):=⟨by kernel_rfl,by kernel_rfl,by rw[show decV (rIw 0,rIw 0).1 1=⟨#[48,46,48]⟩ by kernel_rfl];decide,by rw[show decV (rIw 0,rIw 0).2 1=⟨#[48,46,48]⟩ by kernel_rfl];decide⟩
theorem ro_h:RoOk 1 (hfK,hfK):=⟨by kernel_rfl,by kernel_rfl,by rw[show decV (hfK,hfK).1 1=⟨#[48,46,53]⟩ by kernel_rfl];decide,by rw[show decV (hfK,hfK).2 1=⟨#[48,46,53]⟩ by kernel_rfl];decide⟩
theorem kq_wp {b:Bool} {K:T Av} {Q:Av→Prop} (hb:b=true) (h:K.wp Q):(kq b K).wp Q:=⟨hb,h⟩
theorem knC_wp:(knC txA txB txC txR).wp (· = aB true):=by
  have z:sz3 txA txB txC:=⟨by decide,by decide,by decide⟩
  have z2:sz3 txA txB ⟨#[]⟩:=⟨by decide,by decide,by decide⟩
  refine wned z (wned z2 (kq_wp (by rw[bytes_beq];decide) (kq_wp (by rw[bytes_beq];decide) (kq_wp (by rw[bytes_beq];decide) (kq_wp rfl (kq_wp (by rw[bytes_beq];decide) (kq_wp ?_ (wned ?_ (kq_wp ?_ ?_)))))))))
  · rw[kn_r];rfl
  · rw[kn_r];exact ⟨show (2:Nat)≤1000000 by decide,show (1:Nat)≤1000000 by decide,show (1:Nat)≤1000000 by decide⟩
  · rw[kn_r];exact decide_eq_true rfl
  · rw[kn_z];rfl
theorem kn_wp:knW.wp (· = aB true):=by
  have K:(T.need (List.length meK.1≤1000) (.need (List.length meK.2.1≤1000 ∧ ∀ p∈meK.2.1,smP p) (.need (List.length meK.2.2≤1000 ∧ ∀ p∈meK.2.2,smP p) (.need (List.length meK.1≤1000 ∧ ∀ p∈meK.1,RoOk 1 p)
      (knC (nodesS meK.1) (elesS meK.2.1) (edgesS meK.2.2) (roundS 1 meK.1)))))).wp (· = aB true):=by
    refine wned (show (2:Nat)≤1000 by decide) (wned ⟨show (1:Nat)≤1000 by decide,fun p hp=>?_⟩ (wned ⟨show (1:Nat)≤1000 by decide,fun p hp=>?_⟩ (wned ⟨show (2:Nat)≤1000 by decide,fun p hp=>?_⟩ ?_)))
    · rw[List.mem_singleton.1 hp];exact ⟨⟨by decide,by decide⟩,⟨by decide,by decide⟩,⟨by decide,by decide⟩⟩
    · rw[List.mem_singleton.1 hp];exact ⟨⟨by decide,by decide⟩,⟨by decide,by decide⟩,⟨by decide,by decide⟩⟩
    · rcases List.mem_cons.1 hp with rfl|hp
      · exact ro_0
      · rw[List.mem_singleton.1 hp];exact ro_h
    · rw[txA_eq,txB_eq,txC_eq,txR_eq]
      exact knC_wp
  have b : ∀ I:Prop,I → ∀ {K:T Av},K.wp (· = aB true)→(k2b I K).wp (· = aB true):=fun I hI K h=>⟨wned hI (wned ⟨trivial,trivial,trivial⟩ h),wned hI h⟩
  have i0:in64 0∧in64 0:=⟨⟨by decide,by decide⟩,⟨by decide,by decide⟩⟩
  exact wned ⟨by unfold sg;decide,by unfold sg;decide,by decide⟩ ⟨wned i0 (wned ⟨trivial,trivial,trivial,trivial⟩ K),b _ i0 K,b _ i0 K⟩
noncomputable def con_wknown:Con Tryz.prog:=⟨8,[],_,cf_wknown,val_conC (O:=OWK) (E:=EWK) (L:=fun _=>none) rfl mixed Tryz.func8 no_loops [] (fun _=>True) (fun _=>aB true) (fun _=>knW) (fun _=>tr_wknown_eq) fun _ _=>kn_wp⟩
def isDig (c:UInt8):Prop:=48≤(c.toNat:Int)∧(c.toNat:Int)≤57
def dv (v:Int) (l:List UInt8):Int:=l.foldl (fun v c=>v*10+((c.toNat:Int)-48)) v
theorem dv_app (v:Int) (l k:List UInt8):dv v (l++k)=dv (dv v l) k:=by unfold dv;rw[List.foldl_append]
theorem dg_byte {x:Nat} : ∀ z∈dg x,48≤z∧z≤57:=by
  induction x using Nat.strongRecOn with
  | ind x ih =>
    intro z hz
    by_cases h:x=0
    · rw[h,dg_zero]at hz;cases hz
    · rw[dg_pos h]at hz
      rcases List.mem_cons.1 hz with rfl|hz
      · omega
      · exact ih (x/10) (Nat.div_lt_self (by omega) (by omega)) z hz
def byt (z:Int):UInt8:=UInt8.ofNat z.toNat
theorem byt_nat {z:Int} (h:0≤z∧z<256):((byt z).toNat:Int)=z:=by
  unfold byt
  rw[UInt8.toNat_ofNat_of_lt' (by simp;omega)]
  omega
theorem dv_dg (x:Nat):dv 0 ((dg x).reverse.map byt)=x:=by
  induction x using Nat.strongRecOn with
  | ind x ih =>
    by_cases h:x=0
    · rw[h,dg_zero];rfl
    · rw[dg_pos h,List.reverse_cons,List.map_append,dv_app,ih (x/10) (Nat.div_lt_self (by omega) (by omega))]
      simp only[List.map_cons,List.map_nil,dv,List.foldl_cons,List.foldl_nil]
      rw[byt_nat (by omega)]
      omega
theorem txt_list {z:Int} (h0:0≤z) (hz:z.natAbs<Pq.bp 32):(txt (wOf z)).data.toList=if z=0 then [48] else (dg z.toNat).reverse.map byt:=by
  have e:wOf z=(decide (z<0),⟨z.natAbs,hz⟩):=by unfold wOf;rw[dif_pos hz]
  rw[e]
  unfold txt
  by_cases h:z=0
  · subst h;rfl
  · rw[if_neg (show ¬ z.natAbs=0 by omega),if_neg h,if_neg (by simpa using h0),List.append_nil]
    have e2:z.natAbs=z.toNat:=by omega
    show ((dg z.natAbs).reverse.map fun z=>UInt8.ofNat z.toNat).toArray.toList=_
    rw[e2]
    rfl
theorem txt_dig {z:Int} (h0:0≤z) (hz:z.natAbs<Pq.bp 32):(∀ c∈(txt (wOf z)).data.toList,isDig c)∧dv 0 (txt (wOf z)).data.toList=z:=by
  rw[txt_list h0 hz]
  by_cases h:z=0
  · subst h
    rw[if_pos rfl]
    exact ⟨fun c hc=>by rw[List.mem_singleton]at hc;subst hc;unfold isDig;decide,by decide⟩
  · rw[if_neg h]
    refine ⟨fun c hc=>?_,?_⟩
    · obtain ⟨y,hy,rfl⟩:=List.mem_map.1 hc
      have:=dg_byte y (List.mem_reverse.1 hy)
      unfold isDig
      rw[byt_nat (by omega)];omega
    · rw[dv_dg];omega
theorem dv_zeros (n:Nat):dv 0 (List.replicate n 48)=0:=by
  induction n with
  | zero=>rfl
  | succ n ih=>rw[List.replicate_succ];exact ih
theorem pad_dig {z k:Int} (h0:0≤z) (hz:z.natAbs<Pq.bp 32):(∀ c∈(padS k (txt (wOf z))).data.toList,isDig c)∧dv 0 (padS k (txt (wOf z))).data.toList=z∧k+1≤((padS k (txt (wOf z))).data.toList.length:Int):=by
  obtain ⟨h1,h2⟩:=txt_dig h0 hz
  have e:(padS k (txt (wOf z))).data.toList=List.replicate (k+1-(txt (wOf z)).size).toNat 48++(txt (wOf z)).data.toList:=by unfold padS;simp
  rw[e]
  refine ⟨fun c hc=>?_,?_,?_⟩
  · rcases List.mem_append.1 hc with hc|hc
    · rw[List.eq_of_mem_replicate hc];unfold isDig;decide
    · exact h1 c hc
  · rw[dv_app,dv_zeros,h2]
  · rw[List.length_append,List.length_replicate]
    have:(txt (wOf z)).size=(txt (wOf z)).data.toList.length:=by rw[Array.length_toList];rfl
    omega
theorem point_list {k:Int} {s:ByteArray} (hk:0<k) (hs:k<s.size):(pointS k s).data.toList=s.data.toList.take (s.size-k.toNat)++46::s.data.toList.drop (s.size-k.toNat):=by
  have hsz:s.size=s.data.toList.length:=by rw[Array.length_toList];rfl
  unfold pointS
  rw[if_pos hk]
  simp only[ByteArray.data_append,ByteArray.data_extract,Array.toList_append,Array.toList_extract,List.extract_eq_take_drop]
  rw[show ((s.size:Int)-k).toNat=s.size-k.toNat from by omega]
  simp only[Nat.sub_zero,List.drop_zero,List.append_assoc]
  congr 1
  show [46]++_=_
  rw[List.singleton_append,List.take_of_length_le (by rw[List.length_drop];omega)]
theorem decW_size {z k nz:Int} (h0:0≤z) (hz:z<10000000000000000000) (hk:0≤k) (hk9:k≤9):(decS z k nz).size≤100:=by
  have hb:z.natAbs<Pq.bp 32:=Nat.lt_of_lt_of_le (show z.natAbs<2^64 by show z.natAbs<18446744073709551616;omega) (bp_ge (k:=64) 1024 rfl (by decide))
  have ht:(txt (wOf z)).size≤65:=by
    have hsz:(txt (wOf z)).size=(txt (wOf z)).data.toList.length:=by rw[Array.length_toList];rfl
    rw[hsz,txt_list h0 hb]
    split
    · simp
    · rw[List.length_map,List.length_reverse]
      have:=dg_len (n:=64) (x:=z.toNat) (by show z.toNat<18446744073709551616;omega)
      omega
  have hp:=padS_size k (txt (wOf z))
  have hpt:(pointS k (padS k (txt (wOf z)))).size≤(padS k (txt (wOf z))).size+1:=by
    unfold pointS
    split
    · rw[ByteArray.size_append,ByteArray.size_append,ByteArray.size_extract,ByteArray.size_extract]
      have:ByteArray.size (⟨#[46]⟩:ByteArray)=1:=rfl
      omega
    · omega
  unfold decS
  generalize pointS k (padS k (txt (wOf z)))=u at *
  have hs:(signS (decide (nz<0∧z≠0)) u).size≤u.size+1:=by
    unfold signS
    split
    · rw[ByteArray.size_append]
      have:ByteArray.size (⟨#[45]⟩:ByteArray)=1:=rfl
      omega
    · omega
  omega
theorem clamp_in {k:Int} (h:0≤k∧k≤20):clampD k=k:=by unfold clampD;split <;> split <;> omega
theorem near_int {m t d z:Int} (hd:0<d) (hz:z=if m*t%d*2≥d then m*t/d+1 else m*t/d):2*(m*t-z*d)≤d ∧ -d≤2*(m*t-z*d):=by
  have h1:=Int.mul_ediv_add_emod (m*t) d
  have h2:=Int.emod_nonneg (m*t) (show d≠0 by omega)
  have h3:=Int.emod_lt_of_pos (m*t) hd
  generalize m*t=p at *
  generalize p/d=q at *
  generalize p%d=r at *
  have e:q*d=d*q:=Int.mul_comm _ _
  split at hz
  · subst hz
    rw[Int.add_mul,e]
    omega
  · subst hz
    rw[e]
    omega
theorem divInt_le' {a b c d:Int} (hb:0<b) (hd:0<d) (h:a*d≤c*b):Rat.divInt a b≤Rat.divInt c d:=by
  rw[←Rat.not_lt]
  intro hlt
  rw[divInt_lt hd hb]at hlt
  omega
theorem near_q {n d v t:Int} (hd:0<d) (ht:0<t) (h:2*(n*t-v*d)≤d):Rat.divInt n d-Rat.divInt v t≤Rat.divInt 1 (2*t):=by
  rw[Rat.divInt_sub_divInt _ _ (by omega) (by omega)]
  refine divInt_le' (Int.mul_pos hd ht) (by omega) ?_
  have h2:=Int.mul_le_mul_of_nonneg_right h (show 0≤t by omega)
  have e1:(n*t-v*d)*(2*t)=2*(n*t-v*d)*t:=by rw[←Int.mul_assoc,Int.mul_comm (n*t-v*d) 2]
  rw[e1,Int.one_mul]
  exact h2
theorem near_q' {n d v t:Int} (hd:0<d) (ht:0<t) (h : -d≤2*(n*t-v*d)):Rat.divInt v t-Rat.divInt n d≤Rat.divInt 1 (2*t):=by
  rw[Rat.divInt_sub_divInt _ _ (by omega) (by omega)]
  refine divInt_le' (Int.mul_pos ht hd) (by omega) ?_
  have h2:=Int.mul_le_mul_of_nonneg_right h (show 0≤t by omega)
  have e1:(v*d-n*t)*(2*t) = - (2*(n*t-v*d)*t):=by
    rw[show v*d-n*t = - (n*t-v*d) by omega,Int.neg_mul,←Int.mul_assoc,Int.mul_comm (n*t-v*d) 2]
  rw[e1,Int.one_mul,Int.mul_comm t d]
  rw[Int.neg_mul]at h2
  omega
theorem ten_b {n:Nat} (h:n≤9):(0:Int)<10^n∧(10:Int)^n≤1000000000:=by
  have h1:(10:Nat)^n≤10^9:=Nat.pow_le_pow_right (by decide) h
  have h2:0<(10:Nat)^n:=Nat.pow_pos (by decide)
  have e:(10:Int)^n=((10^n:Nat):Int):=by simp
  rw[e]
  omega
def scw:List UInt8→Int→Bool→Int×Bool
  | [],v,n=>(v,n)
  | c::r,v,n=>if (c.toNat:Int)=45 then scw r v true else if (c.toNat:Int)=46 then scw r v n else scw r (v*10+((c.toNat:Int)-48)) n
theorem scw_digits : ∀ (l r:List UInt8) (v:Int) (n:Bool),(∀ c∈l,isDig c)→scw (l++r) v n=scw r (dv v l) n
  | [],r,v,n,_=>by simp[dv]
  | c::l,r,v,n,h=>by
    have hc:isDig c:=h c (by simp)
    unfold isDig at hc
    rw[List.cons_append,scw,if_neg (by omega),if_neg (by omega),scw_digits l r _ n (fun c' h'=>h c' (by simp[h']))]
    simp only[dv,List.foldl_cons]
theorem scw_dec {z k nz:Int} (h0:0≤z) (hz:z.natAbs<Pq.bp 32) (hk:0≤k):scw (decS z k nz).data.toList 0 false=(z,decide (nz<0∧z≠0))∧(∀ c∈(decS z k nz).data.toList,isDig c∨(c.toNat:Int)=45∨(c.toNat:Int)=46)∧(decS z k nz).data.toList≠[]:=by
  obtain ⟨h1,h2,h3⟩:=pad_dig (k:=k) h0 hz
  unfold decS
  generalize padS k (txt (wOf z))=s at *
  have hsz:s.size=s.data.toList.length:=by rw[Array.length_toList];rfl
  have hl:pointS k s=s∨(0<k∧(pointS k s).data.toList=s.data.toList.take (s.size-k.toNat)++46::s.data.toList.drop (s.size-k.toNat)):=by
    by_cases hk0:k=0
    · left;unfold pointS;rw[if_neg (by omega)]
    · exact .inr ⟨by omega,point_list (by omega) (by omega)⟩
  have body : ∀ n:Bool,scw (pointS k s).data.toList 0 n=(z,n)∧(∀ c∈(pointS k s).data.toList,isDig c∨(c.toNat:Int)=45∨(c.toNat:Int)=46)∧(pointS k s).data.toList≠[]:=fun n=>by
    rcases hl with e|⟨_,e⟩
    · rw[e]
      refine ⟨?_,fun c hc=>.inl (h1 c hc),fun e=>by rw[e]at h3;simp at h3;omega⟩
      rw[←List.append_nil s.data.toList,scw_digits _ _ _ _ h1,h2];rfl
    · rw[e]
      refine ⟨?_,fun c hc=>?_,by simp⟩
      · rw[scw_digits _ _ _ _ (fun c hc=>h1 c (List.mem_of_mem_take hc)),scw,if_neg (by decide),if_pos (by decide),←List.append_nil (s.data.toList.drop _),scw_digits _ _ _ _ (fun c hc=>h1 c (List.mem_of_mem_drop hc)),←dv_app,List.take_append_drop,h2];rfl
      · rcases List.mem_append.1 hc with hc|hc
        · exact .inl (h1 c (List.mem_of_mem_take hc))
        · rcases List.mem_cons.1 hc with rfl|hc
          · exact .inr (.inr (by decide))
          · exact .inl (h1 c (List.mem_of_mem_drop hc))
  by_cases hn:nz<0∧z≠0
  · rw[decide_eq_true hn]
    have el:(signS true (pointS k s)).data.toList=45::(pointS k s).data.toList:=by unfold signS;simp
    obtain ⟨b1,b2,b3⟩:=body true
    rw[el]
    refine ⟨?_,fun c hc=>?_,by simp⟩
    · rw[scw,if_pos (by decide)];exact b1
    · rcases List.mem_cons.1 hc with rfl|hc
      · exact .inr (.inl (by decide))
      · exact b2 c hc
  · rw[decide_eq_false hn]
    have el:signS false (pointS k s)=pointS k s:=by unfold signS;simp
    rw[el]
    exact body false
end Go.Proofs.YtmcbljjgkmkhcaaGreatDoor
