/- The plain SHA-256 of the document's layer 2, as functions on numbers and lists of bytes: no program in sight. Nothing is asked of the bytes but that a block has 64 of them. -/
namespace Go.Proofs.YtjpaajpjajoijaaDoor.Sha

/-- A word turned right. -/
def rotr (x n : Nat) : Nat := x / 2 ^ n ||| x * 2 ^ (32 - n) % 4294967296
/-- The sum of two words. -/
def add (x y : Nat) : Nat := (x + y) % 4294967296

structure St where
  a : Nat
  b : Nat
  c : Nat
  d : Nat
  e : Nat
  f : Nat
  g : Nat
  h : Nat

def iv : St := ⟨1779033703, 3144134277, 1013904242, 2773480762, 1359893119, 2600822924, 528734635, 1541459225⟩

def ks : List Nat := [
  0x428a2f98, 0x71374491, 0xb5c0fbcf, 0xe9b5dba5, 0x3956c25b, 0x59f111f1, 0x923f82a4, 0xab1c5ed5,
  0xd807aa98, 0x12835b01, 0x243185be, 0x550c7dc3, 0x72be5d74, 0x80deb1fe, 0x9bdc06a7, 0xc19bf174,
  0xe49b69c1, 0xefbe4786, 0x0fc19dc6, 0x240ca1cc, 0x2de92c6f, 0x4a7484aa, 0x5cb0a9dc, 0x76f988da,
  0x983e5152, 0xa831c66d, 0xb00327c8, 0xbf597fc7, 0xc6e00bf3, 0xd5a79147, 0x06ca6351, 0x14292967,
  0x27b70a85, 0x2e1b2138, 0x4d2c6dfc, 0x53380d13, 0x650a7354, 0x766a0abb, 0x81c2c92e, 0x92722c85,
  0xa2bfe8a1, 0xa81a664b, 0xc24b8b70, 0xc76c51a3, 0xd192e819, 0xd6990624, 0xf40e3585, 0x106aa070,
  0x19a4c116, 0x1e376c08, 0x2748774c, 0x34b0bcb5, 0x391c0cb3, 0x4ed8aa4a, 0x5b9cca4f, 0x682e6ff3,
  0x748f82ee, 0x78a5636f, 0x84c87814, 0x8cc70208, 0x90befffa, 0xa4506ceb, 0xbef9a3f7, 0xc67178f2]

def sig1 (e : Nat) : Nat := rotr e 6 ^^^ rotr e 11 ^^^ rotr e 25
def sig0 (a : Nat) : Nat := rotr a 2 ^^^ rotr a 13 ^^^ rotr a 22
def ch (e f g : Nat) : Nat := (e &&& f) ^^^ ((4294967295 - e) &&& g)
def maj (a b c : Nat) : Nat := (a &&& b) ^^^ (a &&& c) ^^^ (b &&& c)
def t1 (S : St) (k w : Nat) : Nat := add (add (add (add S.h (sig1 S.e)) (ch S.e S.f S.g)) k) w
def t2 (S : St) : Nat := add (sig0 S.a) (maj S.a S.b S.c)
/-- One of the 64 turns of a block. -/
def turn (S : St) (k w : Nat) : St := ⟨add (t1 S k w) (t2 S), S.a, S.b, S.c, add S.d (t1 S k w), S.e, S.f, S.g⟩

/-- The word of four bytes. -/
def word (p q r s : UInt8) : Nat := ((p.toNat * 256 + q.toNat) * 256 + r.toNat) * 256 + s.toNat
/-- The first n words of a block. -/
def words (b : List UInt8) : Nat → List Nat
  | 0 => []
  | n + 1 => words b n ++ [word (b.getD (4 * n) 0) (b.getD (4 * n + 1) 0) (b.getD (4 * n + 2) 0) (b.getD (4 * n + 3) 0)]
def low0 (x : Nat) : Nat := rotr x 7 ^^^ rotr x 18 ^^^ x / 8
def low1 (x : Nat) : Nat := rotr x 17 ^^^ rotr x 19 ^^^ x / 1024
/-- The word behind the words l. -/
def nextw (l : List Nat) : Nat := add (add (add (l.getD (l.length - 16) 0) (low0 (l.getD (l.length - 15) 0))) (l.getD (l.length - 7) 0)) (low1 (l.getD (l.length - 2) 0))
def sch (l : List Nat) : Nat → List Nat
  | 0 => l
  | n + 1 => sch l n ++ [nextw (sch l n)]
/-- The 64 words of a block. -/
def sched (b : List UInt8) : List Nat := sch (words b 16) 48

def turns (w : List Nat) (S : St) : Nat → St
  | 0 => S
  | n + 1 => turn (turns w S n) (ks.getD n 0) (w.getD n 0)
def plus (S T : St) : St := ⟨add S.a T.a, add S.b T.b, add S.c T.c, add S.d T.d, add S.e T.e, add S.f T.f, add S.g T.g, add S.h T.h⟩
/-- The eight words behind a block. -/
def block (S : St) (b : List UInt8) : St := plus S (turns (sched b) S 64)
/-- The eight words behind n blocks. -/
def blocks (S : St) (l : List UInt8) : Nat → St
  | 0 => S
  | n + 1 => blocks (block S (l.take 64)) (l.drop 64) n

def St.toList (S : St) : List Nat := [S.a, S.b, S.c, S.d, S.e, S.f, S.g, S.h]
/-- Byte i of the digest. -/
def dig (S : St) (i : Nat) : Nat := S.toList.getD (i / 4) 0 / 2 ^ (24 - 8 * (i % 4)) % 256
def digest (S : St) : List Nat := (List.range 32).map (dig S)

/-- The bytes behind a text of n bytes. -/
def fill (n : Nat) : List UInt8 := List.replicate ((119 - n % 64) % 64) 0
def len8 (n : Nat) : List UInt8 := (List.range 8).map fun i => UInt8.ofNat (8 * n / 2 ^ (56 - 8 * i) % 256)
def tail (n : Nat) : List UInt8 := 128 :: (fill n ++ len8 n)
def pad (m : List UInt8) : List UInt8 := m ++ tail m.length
/-- The eight words of a text. -/
def final (m : List UInt8) : St := blocks iv (pad m) ((pad m).length / 64)
/-- The digest of a text. -/
def sha (m : List UInt8) : List Nat := digest (final m)

end Go.Proofs.YtjpaajpjajoijaaDoor.Sha
