import Derived.Test.YtdhlibkdcldioaaGreatB8
section
set_option linter.unusedSimpArgs false
set_option linter.unusedVariables false
set_option maxRecDepth 8000
namespace Go.Proofs.YtdhlibkdcldioaaGreat
open Gx Go
abbrev W32:=BitVec 32
def crcP:W32:=3988292384#32
def crcT (x:W32):W32:=(x >>> 1) ^^^ (if x.getLsbD 0 then crcP else 0#32)
def crcN:Nat→W32→W32
 | 0,x=>x
 | n + 1,x=>crcN n (crcT x)
def byW (b:UInt8):W32:=BitVec.ofNat 32 b.toNat
def crcB (s:W32) (b:UInt8):W32:=crcN 8 (s ^^^ byW b)
def crcS (s:W32) (l:List UInt8):W32:=l.foldl crcB s
def ones:W32:=BitVec.allOnes 32
def crc (l:List UInt8):W32:= ~~~ (crcS ones l)
def le4 (v:W32):List UInt8:=[UInt8.ofNat (v.toNat % 256),UInt8.ofNat (v.toNat / 256 % 256),UInt8.ofNat (v.toNat / 65536 % 256),UInt8.ofNat (v.toNat / 16777216 % 256)]
theorem crcN_add:∀ (n m:Nat) (x:W32),crcN (n + m) x=crcN m (crcN n x)
 | 0,m,x=>by simp [crcN]
 | n + 1,m,x=>by
   rw [show n + 1 + m=(n + m) + 1 by omega]
   simp only [crcN]; exact crcN_add n m _
theorem crcN_succ (n:Nat) (x:W32):crcN (n + 1) x=crcT (crcN n x):=by rw [crcN_add n 1]; rfl
theorem crcS_append (s:W32) (a b:List UInt8):crcS s (a ++ b)=crcS (crcS s a) b:=by simp [crcS]
end Go.Proofs.YtdhlibkdcldioaaGreat
end
section
set_option linter.unusedSimpArgs false
set_option linter.unusedVariables false
set_option maxRecDepth 8000
namespace Go.Proofs.YtdhlibkdcldioaaGreat
open Gx Go
end Go.Proofs.YtdhlibkdcldioaaGreat
end
